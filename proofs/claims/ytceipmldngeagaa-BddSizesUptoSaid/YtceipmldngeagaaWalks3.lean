/- For each function: called, it does its work where its condition is so. Printed by program. -/
import Derived.Test.YtceipmldngeagaaFacts
import Derived.Test.YtceipmldngeagaaConds
import Derived.Test.YtceipmldngeagaaManB
import Derived.Test.YtceipmldngeagaaWalks2
set_option linter.unusedVariables false
set_option linter.unusedSimpArgs false
set_option maxRecDepth 100000
namespace Go.Proofs.Ytceipmldngeagaa
open Go.Vc
theorem S_Sift {w0 : World} {H : View} {L : Seg} {w : World} {b_2 : Nat} {v_5 : Value} {nodes_4 : N3} {fp_7 : Seg} {v_10 : Value} {free_9 : LI} {fp_12 : Seg} {v_15 : Value} {xby_14 : M3} {fp_17 : Seg} {v_20 : Value} {order_19 : LI} {fp_22 : Seg} {v_25 : Value} {level_24 : LI} {fp_27 : Seg} {v_30 : Value} {memo_29 : M3} {fp_32 : Seg} {v_35 : Value} {fs_34 : LI} {Q : N3 → LI → M3 → LI → LI → M3 → Prop} (h_6 : OwnSl H (cPair (cInt .i64) (cPair (cInt .i64) (cInt .i64))) 81 v_5 nodes_4 fp_7) (h_11 : OwnSl H (cInt .i64) 32 v_10 free_9 fp_12) (h_16 : OwnMp H kTri (cInt .i64) v_15 xby_14 fp_17) (h_21 : OwnSl H (cInt .i64) 3 v_20 order_19 fp_22) (h_26 : OwnSl H (cInt .i64) 3 v_25 level_24 fp_27) (h_31 : OwnMp H kTri (cInt .i64) v_30 memo_29 fp_32) (h_36 : IsSl H (cInt .i64) v_35 fs_34) (hS : St w0 H ([(b_2, oc #[v_5, v_10, v_15, v_20, v_25, v_30] 79)] ++ (fp_7 ++ (fp_12 ++ (fp_17 ++ (fp_22 ++ (fp_27 ++ (fp_32 ++ L))))))) w) (hV : V_Sift nodes_4 free_9 xby_14 order_19 level_24 memo_29 fs_34 Q) :
 Calls Try.prog 19 #[(pq b_2), v_35] w fun e w' => ∃ (r1 : N3) (r2 : LI) (r3 : M3) (r4 : LI) (r5 : LI) (r6 : M3) (v1 : Value) (fp1 : Seg) (v2 : Value) (fp2 : Seg) (fp3 : Seg) (v4 : Value) (fp4 : Seg) (v5 : Value) (fp5 : Seg) (fp6 : Seg), Q r1 r2 r3 r4 r5 r6 ∧ e = .returned (.tuple #[]) ∧ OwnSl H (cPair (cInt .i64) (cPair (cInt .i64) (cInt .i64))) 81 v1 r1 fp1 ∧ OwnSl H (cInt .i64) 32 v2 r2 fp2 ∧ OwnMp H kTri (cInt .i64) v_15 r3 fp3 ∧ OwnSl H (cInt .i64) 3 v4 r4 fp4 ∧ OwnSl H (cInt .i64) 3 v5 r5 fp5 ∧ OwnMp H kTri (cInt .i64) v_30 r6 fp6 ∧ St w0 H ([(b_2, oc #[v1, v2, v_15, v4, v5, v_30] 79)] ++ (fp1 ++ (fp2 ++ (fp3 ++ (fp4 ++ (fp5 ++ (fp6 ++ L))))))) w' := by
 unfold V_Sift at hV
 refine enter Try.func19 rfl Try.ntmps19 rfl (lk_args_cons (d := 0) (v := (pq b_2)) rfl (lk_args_cons (d := 1) (v := v_35) rfl (lk_args_nil _))) ?_
 refine WC.sr ?_
 refine WL.mv rfl rfl ?_
 refine WL.run hS rfl rfl rfl (ex_nilCheck rfl) ?_
 refine WL.run hS rfl rfl rfl (ex_fieldAddr (o' := 3) Try.underlying79 rfl Try.sizeOf27 rfl rfl) ?_
 refine WL.run hS rfl rfl rfl (ex_load_box Try.isAgg27 rfl rfl) ?_
 have hl_37 : Len order_19 := h_21.bound
 replace hV := hV hl_37
 refine WL.run hS rfl rfl rfl (ex_len_own Try.underlying27 rfl h_21) ?_
 obtain ⟨hm_42, hV⟩ := hV
 refine WL.make (c := (cInt .i64)) (z0 := (0 : Int)) rfl Try.underlying27 Try.info3 rfl ⟨rfl, I64.has (by unfold I64; omega)⟩ rfl rfl hm_42.1 hm_42.2.1 hm_42.2.2 hS ?_
 clear hS
 intro v_39 w fp_40 h_41 hS
 refine WL.alloc (arr := #[(.slice none 0 0)]) rfl Try.zeroValue27 rfl hS ?_
 clear hS
 intro b_43 w hS
 refine WL.store_box (pre := []) (old := [(.slice none 0 0)]) (rst := []) (cs := [v_39]) (arr' := #[v_39]) Try.sizeOf27 rfl rfl (congrArg Array.toList (cells_one (OwnSl.one h_41))) ⟨(OwnSl.one h_41), trivial⟩ rfl rfl rfl rfl hS ?_
 clear hS
 intro w hS
 refine WL.nx ?_
 refine WC.seq ?_
 refine WC.sr ?_
 refine WL.mv rfl rfl ?_
 refine WL.mv rfl rfl ?_
 replace hS := hS.f9.f9.f9.f9.f9.f9.f9
 refine WL.call rfl rfl rfl (enters0 (vs := [(pq b_2), v_35]) Try.call52 ⟨rfl, rfl, trivial⟩) (S_all  h_6 h_11 h_16 h_21 h_26 h_31 h_36 hS hV) ?_
 clear hV hS
 rintro _ w ⟨r_46, v_47, fp_48, hV, rfl, h_49, hS⟩
 refine ⟨_, rfl, ?_⟩
 refine WL.range rfl Try.underlying87 rfl hS h_49 ?_
 clear hS
 intro b_52 w fp_53 h_54 hS
 refine WL.nx ?_
 refine WC.block ?_
 replace hS := hS.f2.f11.f11.f11.f11.f11.f11.f11.f11.f11
 obtain ⟨I_182, mu_183, hI_2246, hV⟩ := hV
 refine WC.loop (σ := LI × LI) (fun s a w => ∃ (c_116 : LI) (sn_120 : LI) (v_117 : Value) (fp_118 : Seg) (fp_121 : Seg), s = (c_116, sn_120) ∧ I_182 (c_116, sn_120) ∧ OwnSl H (cInt .i64) 3 v_117 c_116 fp_118 ∧ ItOk kInt fp_48 ((pq b_52)) fp_121 sn_120 ∧ St w0 H ([(b_2, oc #[v_5, v_10, v_15, v_20, v_25, v_30] 79)] ++ (fp_7 ++ (fp_12 ++ (fp_17 ++ (fp_22 ++ (fp_27 ++ (fp_32 ++ ([(b_43, oc #[v_117] 27)] ++ (fp_118 ++ (fp_48 ++ (fp_121 ++ L))))))))))) w ∧ Fr 174 [(0, (pq b_2)), (1, v_35), (4, (pq b_43)), (27, (pq b_52))] a) mu_183 ((List.replicate (order_19.length : Int).toNat (0 : Int)), ([] : LI)) ?_ ?_
 exact fun a ha => ⟨(List.replicate (order_19.length : Int).toNat (0 : Int)), ([] : LI), v_39, fp_40, fp_53, rfl, hI_2246, h_41, h_54, hS, ha.of_sub ⟨rfl, rfl, rfl, rfl, trivial⟩⟩
 clear hS hI_2246
 rintro _ a w ⟨c_116, sn_120, v_117, fp_118, fp_121, rfl, hI, h_119, h_122, hS, ha⟩
 refine in_frame ha ?_
 clear ha
 replace hV := hV _ hI
 clear hI
 refine WC.sr ?_
 replace hS := hS.f10.f11
 refine WL.next (sn := sn_120) rfl rfl rfl hS h_49 h_122 ?_ ?_
 clear hS
 intro hh_185 w hS
 replace hV := hV.1 hh_185
 refine WL.run hS rfl rfl rfl (ex_extract rfl rfl) ?_
 refine WL.nx ?_
 refine WC.seq ?_
 refine WC.cond_false rfl ?_
 refine WC.exit ?_
 refine WQ.pass nofun ?_
 refine WQ.pass nofun ?_
 refine WQ.hit ?_
 refine WQ.next ?_
 replace hS := hS.f2.drop
 replace hS := hS.drop
 refine WC.sr ?_
 refine WL.mv rfl rfl ?_
 refine WL.run hS rfl rfl rfl (ex_nilCheck rfl) ?_
 refine WL.run hS rfl rfl rfl (ex_fieldAddr (o' := 3) Try.underlying79 rfl Try.sizeOf27 rfl rfl) ?_
 refine WL.run hS rfl rfl rfl (ex_load_box Try.isAgg27 rfl rfl) ?_
 have hl_186 : Len order_19 := h_21.bound
 replace hV := hV hl_186
 refine WL.run hS rfl rfl rfl (ex_len_own Try.underlying27 rfl h_21) ?_
 obtain ⟨hm_191, hV⟩ := hV
 refine WL.make (c := (cInt .i64)) (z0 := (0 : Int)) rfl Try.underlying27 Try.info3 rfl ⟨rfl, I64.has (by unfold I64; omega)⟩ rfl rfl hm_191.1 hm_191.2.1 hm_191.2.2 hS ?_
 clear hS
 intro v_188 w fp_189 h_190 hS
 refine WL.ma rfl rfl ?_
 refine WL.nx ?_
 refine WC.seq ?_
 refine WC.sr ?_
 refine WL.mv rfl rfl ?_
 have hl_192 : Len (List.replicate (order_19.length : Int).toNat (0 : Int)) := h_190.bound
 replace hV := hV hl_192
 refine WL.run hS rfl rfl rfl (ex_len_own Try.underlying27 rfl h_190) ?_
 refine WL.mv rfl rfl ?_
 refine WL.nx ?_
 refine WC.sub (m := [(0, (pq b_2)), (1, v_35), (4, (pq b_43)), (6, v_188), (52, i6 ((List.replicate (order_19.length : Int).toNat (0 : Int)).length : Int)), (53, i6 0)]) ⟨rfl, rfl, rfl, rfl, rfl, rfl, trivial⟩ ?_
 refine WC.block ?_
 replace hS := hS.f10.f10.f10.f10.f10.f10.f10.f10.f10
 obtain ⟨I_218, mu_219, hI_2187, hV⟩ := hV
 refine WC.loop (σ := LI × Int) (fun s a w => ∃ (vars_203 : LI) (x_207 : Int) (v_204 : Value) (fp_205 : Seg), s = (vars_203, x_207) ∧ I_218 (vars_203, x_207) ∧ OwnSl H (cInt .i64) 3 v_204 vars_203 fp_205 ∧ I64 x_207 ∧ St w0 H ([(b_2, oc #[v_5, v_10, v_15, v_20, v_25, v_30] 79)] ++ (fp_7 ++ (fp_12 ++ (fp_17 ++ (fp_22 ++ (fp_27 ++ (fp_32 ++ ([(b_43, oc #[v_117] 27)] ++ (fp_118 ++ (fp_205 ++ L)))))))))) w ∧ Fr 174 [(0, (pq b_2)), (1, v_35), (4, (pq b_43)), (6, v_204), (52, i6 ((List.replicate (order_19.length : Int).toNat (0 : Int)).length : Int)), (53, i6 x_207)] a) mu_219 ((List.replicate (order_19.length : Int).toNat (0 : Int)), 0) ?_ ?_
 exact fun a ha => ⟨(List.replicate (order_19.length : Int).toNat (0 : Int)), 0, v_188, fp_189, rfl, hI_2187, h_190, (by unfold I64; omega), hS, ha.of_sub ⟨rfl, rfl, rfl, rfl, rfl, rfl, trivial⟩⟩
 clear hS hI_2187
 rintro _ a w ⟨vars_203, x_207, v_204, fp_205, rfl, hI, h_206, hr_208, hS, ha⟩
 refine in_frame ha ?_
 clear ha
 replace hV := hV _ hI
 clear hI
 refine WC.sr ?_
 refine WL.run hS rfl rfl rfl (ex_lss rfl rfl) ?_
 refine WL.nx ?_
 refine WC.seq ?_
 refine WC.cond rfl ?_ ?_
 intro hc_2186
 replace hV := hV.1 (of_decide_eq_true hc_2186)
 refine WC.skip ?_
 refine WQ.next ?_
 refine WC.seq ?_
 refine WC.block ?_
 refine WC.sr ?_
 refine WL.mv rfl rfl ?_
 refine WL.ma rfl rfl ?_
 refine WL.nx ?_
 refine WC.region ?_
 refine WL.mv rfl rfl ?_
 refine WL.mv rfl rfl ?_
 refine WL.mv rfl rfl ?_
 obtain ⟨hin_222, hV⟩ := hV
 refine WL.runx hS rfl rfl rfl (ex_index_own Try.underlying27 Try.sizeOf3 rfl rfl h_206 hin_222) ?_
 intro p_223 hp_224
 replace hS := hS.f10
 refine WL.store_own Try.sizeOf3 rfl rfl rfl (cInt_mk (I64.has hr_208)) hS h_206 hp_224 hin_222 ?_
 clear hS
 intro w fp_226 h_225 hS
 refine WL.nil ?_
 refine WQ.out nofun ?_
 refine WQ.next ?_
 refine WC.region ?_
 obtain ⟨hi_228, hV⟩ := hV
 refine WL.run hS rfl rfl rfl (ex_add rfl rfl hi_228) ?_
 refine WL.mv rfl rfl ?_
 refine WL.nil ?_
 replace hS := hS.f10.f10.f10.f10.f10.f10.f10.f10.f10
 exact WQ.there fun a ha => ⟨((vars_203.set x_207.toNat x_207), (x_207 + 1)), ⟨(vars_203.set x_207.toNat x_207), (x_207 + 1), v_204, fp_226, rfl, hV.1, h_225, hi_228, hS, ha.of_sub ⟨rfl, rfl, rfl, rfl, rfl, rfl, trivial⟩⟩, hV.2⟩
 intro hc_2186
 replace hV := hV.2 (of_decide_eq_false hc_2186)
 refine WC.exit ?_
 refine WQ.pass nofun ?_
 refine WQ.pass nofun ?_
 refine WQ.hit ?_
 refine WQ.next ?_
 refine WC.sr ?_
 refine WL.mv rfl rfl ?_
 refine WL.run hS rfl rfl rfl (ex_makeFunc (vs := [(pq b_43)]) ⟨rfl, trivial⟩) ?_
 replace hS := hS.f9
 obtain ⟨H_229, le_230, h_231, hS⟩ : ∃ K, View.le H K ∧ IsSl K (cInt .i64) v_117 c_116 ∧ St w0 K ([(b_2, oc #[v_5, v_10, v_15, v_20, v_25, v_30] 79)] ++ (fp_7 ++ (fp_12 ++ (fp_17 ++ (fp_22 ++ (fp_27 ++ (fp_32 ++ ([(b_43, oc #[v_117] 27)] ++ (fp_205 ++ L))))))))) w := ⟨_, hS.put_le, h_119.share hS.put_le, hS.freeze⟩
 replace hS := hS.f8.f9
 refine WL.call rfl rfl rfl (enters0 (vs := [v_204, .func (.func 54) #[] #[(pq b_43)]]) Try.call53 ⟨rfl, rfl, trivial⟩) (S_SortSF  (h_206.mono le_230) h_231 hS hV) ?_
 clear hV hS
 rintro _ w ⟨c_232, fp_233, hV, rfl, h_234, hS⟩
 refine ⟨_, rfl, ?_⟩
 refine WL.nx ?_
 replace hS := hS.f2.drop
 refine WC.sr ?_
 refine WL.makeMap (κ := Int) (ν := Int) (kc := kInt) (c := (cInt .i64)) rfl hS ?_
 clear hS
 intro v_236 w fp_237 h_238 hS
 refine WL.ma rfl rfl ?_
 refine WL.nx ?_
 refine WC.seq ?_
 refine WC.sr ?_
 refine WL.mv rfl rfl ?_
 refine WL.run hS rfl rfl rfl (ex_nilCheck rfl) ?_
 refine WL.run hS rfl rfl rfl (ex_fieldAddr (o' := 2) Try.underlying79 rfl Try.sizeOf76 rfl rfl) ?_
 replace hS := hS.f3
 refine WL.run hS rfl rfl rfl (ex_load_box Try.isAgg76 rfl rfl) ?_
 replace hS := hS.f6
 refine WL.range rfl Try.underlying76 rfl hS (h_16.mono le_230) ?_
 clear hS
 intro b_240 w fp_241 h_242 hS
 refine WL.nx ?_
 refine WC.sub (m := [(0, (pq b_2)), (1, v_35), (6, v_204), (8, v_236), (69, (pq b_240))]) ⟨rfl, rfl, rfl, rfl, rfl, trivial⟩ ?_
 refine WC.block ?_
 replace hS := hS.f4.f5.f10.f10.f10.f7.f10.f10.f10
 obtain ⟨I_278, mu_279, hI_2185, hV⟩ := hV
 refine WC.loop (σ := M1 × N3) (fun s a w => ∃ (old_258 : M1) (sn_261 : N3) (fp_259 : Seg) (fp_262 : Seg), s = (old_258, sn_261) ∧ I_278 (old_258, sn_261) ∧ OwnMp H_229 kInt (cInt .i64) v_236 old_258 fp_259 ∧ ItOk kTri fp_17 ((pq b_240)) fp_262 sn_261 ∧ St w0 H_229 ([(b_2, oc #[v_5, v_10, v_15, v_20, v_25, v_30] 79)] ++ (fp_7 ++ (fp_12 ++ (fp_17 ++ (fp_22 ++ (fp_27 ++ (fp_32 ++ (fp_233 ++ (fp_259 ++ (fp_262 ++ L)))))))))) w ∧ Fr 174 [(0, (pq b_2)), (1, v_35), (6, v_204), (8, v_236), (69, (pq b_240))] a) mu_279 (([] : M1), ([] : N3)) ?_ ?_
 exact fun a ha => ⟨([] : M1), ([] : N3), fp_237, fp_241, rfl, hI_2185, h_238, h_242, hS, ha.of_sub ⟨rfl, rfl, rfl, rfl, rfl, trivial⟩⟩
 clear hS hI_2185
 rintro _ a w ⟨old_258, sn_261, fp_259, fp_262, rfl, hI, h_260, h_263, hS, ha⟩
 refine in_frame ha ?_
 clear ha
 replace hV := hV _ hI
 clear hI
 refine WC.sr ?_
 replace hS := hS.f4.f10
 refine WL.next (sn := sn_261) rfl rfl rfl hS (h_16.mono le_230) h_263 ?_ ?_
 clear hS
 intro hh_281 w hS
 replace hV := hV.1 hh_281
 refine WL.run hS rfl rfl rfl (ex_extract rfl rfl) ?_
 refine WL.nx ?_
 refine WC.seq ?_
 refine WC.cond_false rfl ?_
 refine WC.exit ?_
 refine WQ.pass nofun ?_
 refine WQ.pass nofun ?_
 refine WQ.hit ?_
 refine WQ.next ?_
 replace hS := hS.drop
 refine WC.sr ?_
 refine WL.mv rfl rfl ?_
 have hl_282 : Len c_232 := h_234.bound
 replace hV := hV hl_282
 refine WL.run hS rfl rfl rfl (ex_len_own Try.underlying27 rfl h_234) ?_
 refine WL.mv rfl rfl ?_
 refine WL.nx ?_
 refine WC.block ?_
 replace hS := hS.f8.f9.f9.f9.f9.f6.f9.f9.f9
 obtain ⟨I_1549, mu_1550, hI_2171, hV⟩ := hV
 refine WC.loop (σ := N3 × LI × M3 × LI × LI × M3 × Int) (fun s a w => ∃ (c_903 : N3) (c_908 : LI) (c_912 : M3) (c_916 : LI) (c_921 : LI) (c_925 : M3) (x_928 : Int) (v_904 : Value) (fp_905 : Seg) (v_909 : Value) (fp_910 : Seg) (fp_913 : Seg) (v_917 : Value) (fp_918 : Seg) (v_922 : Value) (fp_923 : Seg) (fp_926 : Seg), s = (c_903, c_908, c_912, c_916, c_921, c_925, x_928) ∧ I_1549 (c_903, c_908, c_912, c_916, c_921, c_925, x_928) ∧ OwnSl H_229 (cPair (cInt .i64) (cPair (cInt .i64) (cInt .i64))) 81 v_904 c_903 fp_905 ∧ OwnSl H_229 (cInt .i64) 32 v_909 c_908 fp_910 ∧ OwnMp H_229 kTri (cInt .i64) v_15 c_912 fp_913 ∧ OwnSl H_229 (cInt .i64) 3 v_917 c_916 fp_918 ∧ OwnSl H_229 (cInt .i64) 3 v_922 c_921 fp_923 ∧ OwnMp H_229 kTri (cInt .i64) v_30 c_925 fp_926 ∧ I64 x_928 ∧ St w0 H_229 ([(b_2, oc #[v_904, v_909, v_15, v_917, v_922, v_30] 79)] ++ (fp_905 ++ (fp_910 ++ (fp_913 ++ (fp_918 ++ (fp_923 ++ (fp_926 ++ (fp_259 ++ (fp_233 ++ L))))))))) w ∧ Fr 174 [(0, (pq b_2)), (1, v_35), (8, v_236), (76, v_204), (77, i6 (c_232.length : Int)), (78, i6 x_928)] a) mu_1550 (nodes_4, free_9, xby_14, order_19, level_24, memo_29, 0) ?_ ?_
 exact fun a ha => ⟨nodes_4, free_9, xby_14, order_19, level_24, memo_29, 0, v_5, fp_7, v_10, fp_12, fp_17, v_20, fp_22, v_25, fp_27, fp_32, rfl, hI_2171, (h_6.mono le_230), (h_11.mono le_230), (h_16.mono le_230), (h_21.mono le_230), (h_26.mono le_230), (h_31.mono le_230), (by unfold I64; omega), hS, ha.of_sub ⟨rfl, rfl, rfl, rfl, rfl, rfl, trivial⟩⟩
 clear hS hI_2171
 rintro _ a w ⟨c_903, c_908, c_912, c_916, c_921, c_925, x_928, v_904, fp_905, v_909, fp_910, fp_913, v_917, fp_918, v_922, fp_923, fp_926, rfl, hI, h_906, h_911, h_914, h_919, h_924, h_927, hr_929, hS, ha⟩
 refine in_frame ha ?_
 clear ha
 replace hV := hV _ hI
 clear hI
 refine WC.sr ?_
 refine WL.run hS rfl rfl rfl (ex_lss rfl rfl) ?_
 refine WL.nx ?_
 refine WC.seq ?_
 refine WC.cond rfl ?_ ?_
 intro hc_2170
 replace hV := hV.1 (of_decide_eq_true hc_2170)
 refine WC.skip ?_
 refine WQ.next ?_
 refine WC.seq ?_
 refine WC.block ?_
 refine WC.sr ?_
 obtain ⟨hin_1553, hV⟩ := hV
 refine WL.runx hS rfl rfl rfl (ex_index_own Try.underlying27 Try.sizeOf3 rfl rfl h_234 hin_1553) ?_
 intro p_1554 hp_1555
 replace hS := hS.f9
 refine WL.runx hS rfl rfl rfl (exNow (H := H_229) (L := [(b_2, oc #[v_904, v_909, v_15, v_917, v_922, v_30] 79)] ++ (fp_905 ++ (fp_910 ++ (fp_913 ++ (fp_918 ++ (fp_923 ++ (fp_926 ++ (fp_259 ++ L)))))))) (ex_load_own_s Try.isAgg3 rfl rfl h_234 hp_1555 hin_1553)) ?_
 intro u_1556 hu_1557
 obtain ⟨rfl, hr_1558⟩ := cInt_rep hu_1557
 replace hr_1558 := has_I64 hr_1558
 replace hV := hV hr_1558
 refine WL.ma rfl rfl ?_
 refine WL.nx ?_
 refine WC.seq ?_
 refine WC.block ?_
 replace hS := hS.f9.f9.f9.f9.f9.f9.f9.f9
 obtain ⟨I_1673, mu_1674, hI_2169, hV⟩ := hV
 refine WC.loop (σ := N3 × LI × M3 × LI × LI × M3) (fun s a w => ∃ (c_1604 : N3) (c_1609 : LI) (c_1613 : M3) (c_1617 : LI) (c_1622 : LI) (c_1626 : M3) (v_1605 : Value) (fp_1606 : Seg) (v_1610 : Value) (fp_1611 : Seg) (fp_1614 : Seg) (v_1618 : Value) (fp_1619 : Seg) (v_1623 : Value) (fp_1624 : Seg) (fp_1627 : Seg), s = (c_1604, c_1609, c_1613, c_1617, c_1622, c_1626) ∧ I_1673 (c_1604, c_1609, c_1613, c_1617, c_1622, c_1626) ∧ OwnSl H_229 (cPair (cInt .i64) (cPair (cInt .i64) (cInt .i64))) 81 v_1605 c_1604 fp_1606 ∧ OwnSl H_229 (cInt .i64) 32 v_1610 c_1609 fp_1611 ∧ OwnMp H_229 kTri (cInt .i64) v_15 c_1613 fp_1614 ∧ OwnSl H_229 (cInt .i64) 3 v_1618 c_1617 fp_1619 ∧ OwnSl H_229 (cInt .i64) 3 v_1623 c_1622 fp_1624 ∧ OwnMp H_229 kTri (cInt .i64) v_30 c_1626 fp_1627 ∧ St w0 H_229 ([(b_2, oc #[v_1605, v_1610, v_15, v_1618, v_1623, v_30] 79)] ++ (fp_1606 ++ (fp_1611 ++ (fp_1614 ++ (fp_1619 ++ (fp_1624 ++ (fp_1627 ++ (fp_259 ++ (fp_233 ++ L))))))))) w ∧ Fr 174 [(0, (pq b_2)), (1, v_35), (8, v_236), (12, i6 (ix c_232 x_928)), (76, v_204), (77, i6 (c_232.length : Int)), (78, i6 x_928)] a) mu_1674 (c_903, c_908, c_912, c_916, c_921, c_925) ?_ ?_
 exact fun a ha => ⟨c_903, c_908, c_912, c_916, c_921, c_925, v_904, fp_905, v_909, fp_910, fp_913, v_917, fp_918, v_922, fp_923, fp_926, rfl, hI_2169, h_906, h_911, h_914, h_919, h_924, h_927, hS, ha.of_sub ⟨rfl, rfl, rfl, rfl, rfl, rfl, rfl, trivial⟩⟩
 clear hS hI_2169
 rintro _ a w ⟨c_1604, c_1609, c_1613, c_1617, c_1622, c_1626, v_1605, fp_1606, v_1610, fp_1611, fp_1614, v_1618, fp_1619, v_1623, fp_1624, fp_1627, rfl, hI, h_1607, h_1612, h_1615, h_1620, h_1625, h_1628, hS, ha⟩
 refine in_frame ha ?_
 clear ha
 replace hV := hV _ hI
 clear hI
 refine WC.seq ?_
 refine WC.sr ?_
 refine WL.mv rfl rfl ?_
 refine WL.run hS rfl rfl rfl (ex_nilCheck rfl) ?_
 refine WL.run hS rfl rfl rfl (ex_fieldAddr (o' := 4) Try.underlying79 rfl Try.sizeOf27 rfl rfl) ?_
 refine WL.run hS rfl rfl rfl (ex_load_box Try.isAgg27 rfl rfl) ?_
 refine WL.mv rfl rfl ?_
 obtain ⟨hin_1676, hV⟩ := hV
 refine WL.runx hS rfl rfl rfl (ex_index_own Try.underlying27 Try.sizeOf3 rfl rfl h_1625 hin_1676) ?_
 intro p_1677 hp_1678
 replace hS := hS.f6
 refine WL.runx hS rfl rfl rfl (exNow (H := H_229) (L := [(b_2, oc #[v_1605, v_1610, v_15, v_1618, v_1623, v_30] 79)] ++ (fp_1606 ++ (fp_1611 ++ (fp_1614 ++ (fp_1619 ++ (fp_1627 ++ (fp_259 ++ (fp_233 ++ L)))))))) (ex_load_own_s Try.isAgg3 rfl rfl h_1625 hp_1678 hin_1676)) ?_
 intro u_1679 hu_1680
 obtain ⟨rfl, hr_1681⟩ := cInt_rep hu_1680
 replace hr_1681 := has_I64 hr_1681
 replace hV := hV hr_1681
 refine WL.run hS rfl rfl rfl (ex_gtr rfl rfl) ?_
 refine WL.nx ?_
 refine WC.cond rfl ?_ ?_
 intro hc_2168
 replace hV := hV.1 (of_decide_eq_true hc_2168)
 refine WC.skip ?_
 refine WQ.next ?_
 refine WC.block ?_
 refine WC.region ?_
 refine WL.mv rfl rfl ?_
 refine WL.mv rfl rfl ?_
 refine WL.run hS rfl rfl rfl (ex_nilCheck rfl) ?_
 refine WL.run hS rfl rfl rfl (ex_fieldAddr (o' := 4) Try.underlying79 rfl Try.sizeOf27 rfl rfl) ?_
 replace hS := hS.f2
 refine WL.run hS rfl rfl rfl (ex_load_box Try.isAgg27 rfl rfl) ?_
 refine WL.mv rfl rfl ?_
 obtain ⟨hin_1683, hV⟩ := hV
 refine WL.runx hS rfl rfl rfl (ex_index_own Try.underlying27 Try.sizeOf3 rfl rfl h_1625 hin_1683) ?_
 intro p_1684 hp_1685
 replace hS := hS.f2
 refine WL.runx hS rfl rfl rfl (exNow (H := H_229) (L := [(b_2, oc #[v_1605, v_1610, v_15, v_1618, v_1623, v_30] 79)] ++ (fp_1606 ++ (fp_1611 ++ (fp_1614 ++ (fp_1619 ++ (fp_1627 ++ (fp_259 ++ (fp_233 ++ L)))))))) (ex_load_own_s Try.isAgg3 rfl rfl h_1625 hp_1685 hin_1683)) ?_
 intro u_1686 hu_1687
 obtain ⟨rfl, hr_1688⟩ := cInt_rep hu_1687
 replace hr_1688 := has_I64 hr_1688
 replace hV := hV hr_1688
 obtain ⟨hi_1690, hV⟩ := hV
 refine WL.run hS rfl rfl rfl (ex_sub rfl rfl hi_1690) ?_
 replace hS := hS.f7.f2.f7.f7.f7.f7.f7
 refine WL.call rfl rfl rfl (enters0 (vs := [(pq b_2), i6 ((ix c_1622 (ix c_232 x_928)) - 1)]) Try.call18 ⟨rfl, rfl, trivial⟩) (S_Swap  h_1607 h_1612 h_1615 h_1620 h_1625 h_1628 hi_1690 hS hV) ?_
 clear hV hS
 rintro _ w ⟨r_1691, c_1692, c_1696, m_1700, c_1703, c_1707, m_1711, v_1693, fp_1694, v_1697, fp_1698, fp_1701, v_1704, fp_1705, v_1708, fp_1709, fp_1712, hV, rfl, h_1695, h_1699, h_1702, h_1706, h_1710, h_1713, hS⟩
 refine ⟨_, rfl, ?_⟩
 refine WL.nil ?_
 refine WQ.out nofun ?_
 replace hS := hS.f9.f9.f9.f9.f9.f9.f9.f9.f9
 exact WQ.there fun a ha => ⟨(c_1692, c_1696, m_1700, c_1703, c_1707, m_1711), ⟨c_1692, c_1696, m_1700, c_1703, c_1707, m_1711, v_1693, fp_1694, v_1697, fp_1698, fp_1701, v_1704, fp_1705, v_1708, fp_1709, fp_1712, rfl, hV.1, h_1695, h_1699, h_1702, h_1706, h_1710, h_1713, hS, ha.of_sub ⟨rfl, rfl, rfl, rfl, rfl, rfl, rfl, trivial⟩⟩, hV.2⟩
 intro hc_2168
 replace hV := hV.2 (of_decide_eq_false hc_2168)
 refine WC.exit ?_
 refine WQ.pass nofun ?_
 refine WQ.pass nofun ?_
 refine WQ.hit ?_
 refine WQ.next ?_
 refine WC.sr ?_
 refine WL.mv rfl rfl ?_
 refine WL.mv rfl rfl ?_
 replace hS := hS.f7.f2.f7.f7.f7.f7.f7
 refine WL.call rfl rfl rfl (enters0 (vs := [(pq b_2), v_35]) Try.call47 ⟨rfl, rfl, trivial⟩) (S_Size  h_1607 h_1612 h_1615 h_1620 h_1625 h_1628 (h_36.mono le_230) hS hV) ?_
 clear hV hS
 rintro _ w ⟨r_1719, hV, rfl, hr_1720, hS⟩
 refine ⟨_, rfl, ?_⟩
 refine WL.ma rfl rfl ?_
 refine WL.ma rfl rfl ?_
 refine WL.nx ?_
 refine WC.sub (m := [(0, (pq b_2)), (1, v_35), (8, v_236), (12, i6 (ix c_232 x_928)), (13, i6 0), (14, i6 r_1719), (76, v_204), (77, i6 (c_232.length : Int)), (78, i6 x_928)]) ⟨rfl, rfl, rfl, rfl, rfl, rfl, rfl, rfl, rfl, trivial⟩ ?_
 refine WC.seq ?_
 refine WC.block ?_
 replace hS := hS.f9.f9.f9.f9.f9.f9.f9.f9.f9
 obtain ⟨I_1864, mu_1865, hI_2167, hV⟩ := hV
 refine WC.loop (σ := N3 × LI × M3 × LI × LI × M3 × Int × Int) (fun s a w => ∃ (c_1779 : N3) (c_1784 : LI) (c_1788 : M3) (c_1792 : LI) (c_1797 : LI) (c_1801 : M3) (best_1804 : Int) (least_1806 : Int) (v_1780 : Value) (fp_1781 : Seg) (v_1785 : Value) (fp_1786 : Seg) (fp_1789 : Seg) (v_1793 : Value) (fp_1794 : Seg) (v_1798 : Value) (fp_1799 : Seg) (fp_1802 : Seg), s = (c_1779, c_1784, c_1788, c_1792, c_1797, c_1801, best_1804, least_1806) ∧ I_1864 (c_1779, c_1784, c_1788, c_1792, c_1797, c_1801, best_1804, least_1806) ∧ OwnSl H_229 (cPair (cInt .i64) (cPair (cInt .i64) (cInt .i64))) 81 v_1780 c_1779 fp_1781 ∧ OwnSl H_229 (cInt .i64) 32 v_1785 c_1784 fp_1786 ∧ OwnMp H_229 kTri (cInt .i64) v_15 c_1788 fp_1789 ∧ OwnSl H_229 (cInt .i64) 3 v_1793 c_1792 fp_1794 ∧ OwnSl H_229 (cInt .i64) 3 v_1798 c_1797 fp_1799 ∧ OwnMp H_229 kTri (cInt .i64) v_30 c_1801 fp_1802 ∧ I64 best_1804 ∧ I64 least_1806 ∧ St w0 H_229 ([(b_2, oc #[v_1780, v_1785, v_15, v_1793, v_1798, v_30] 79)] ++ (fp_1781 ++ (fp_1786 ++ (fp_1789 ++ (fp_1794 ++ (fp_1799 ++ (fp_1802 ++ (fp_259 ++ (fp_233 ++ L))))))))) w ∧ Fr 174 [(0, (pq b_2)), (1, v_35), (8, v_236), (12, i6 (ix c_232 x_928)), (13, i6 best_1804), (14, i6 least_1806), (76, v_204), (77, i6 (c_232.length : Int)), (78, i6 x_928)] a) mu_1865 (c_1604, c_1609, c_1613, c_1617, c_1622, c_1626, 0, r_1719) ?_ ?_
 exact fun a ha => ⟨c_1604, c_1609, c_1613, c_1617, c_1622, c_1626, 0, r_1719, v_1605, fp_1606, v_1610, fp_1611, fp_1614, v_1618, fp_1619, v_1623, fp_1624, fp_1627, rfl, hI_2167, h_1607, h_1612, h_1615, h_1620, h_1625, h_1628, (by unfold I64; omega), hr_1720, hS, ha.of_sub ⟨rfl, rfl, rfl, rfl, rfl, rfl, rfl, rfl, rfl, trivial⟩⟩
 clear hS hI_2167
 rintro _ a w ⟨c_1779, c_1784, c_1788, c_1792, c_1797, c_1801, best_1804, least_1806, v_1780, fp_1781, v_1785, fp_1786, fp_1789, v_1793, fp_1794, v_1798, fp_1799, fp_1802, rfl, hI, h_1782, h_1787, h_1790, h_1795, h_1800, h_1803, hr_1805, hr_1807, hS, ha⟩
 refine in_frame ha ?_
 clear ha
 replace hV := hV _ hI
 clear hI
 refine WC.seq ?_
 refine WC.seq ?_
 refine WC.quiet (C := St w0 H_229 ([(b_2, oc #[v_1780, v_1785, v_15, v_1793, v_1798, v_30] 79)] ++ (fp_1781 ++ (fp_1786 ++ (fp_1789 ++ (fp_1794 ++ (fp_1799 ++ (fp_1802 ++ (fp_259 ++ (fp_233 ++ L)))))))))) Try.mixed (by kernel_rfl) (hS.drawn _) ?_
 clear hS w
 refine Wq.run rfl rfl rfl (ex_move rfl) ?_
 refine Wq.run rfl rfl rfl (ex_nilCheck rfl) ?_
 refine Wq.run rfl rfl rfl (ex_fieldAddr (o' := 4) Try.underlying79 rfl Try.sizeOf27 rfl rfl) ?_
 refine Wq.run rfl rfl rfl (ex_load_box Try.isAgg27 rfl rfl) ?_
 refine Wq.run rfl rfl rfl (ex_move rfl) ?_
 obtain ⟨hin_1867, hV⟩ := hV
 refine Wq.runx rfl rfl rfl (ex_index_own Try.underlying27 Try.sizeOf3 rfl rfl h_1800 hin_1867) ?_
 intro p_1868 hp_1869
 refine Wq.runx rfl rfl rfl (exQ (ex_load_own_s Try.isAgg3 rfl rfl h_1800 hp_1869 hin_1867) _ (fun _ h => St.f6 h)) ?_
 intro u_1870 hu_1871
 obtain ⟨rfl, hr_1872⟩ := cInt_rep hu_1871
 replace hr_1872 := has_I64 hr_1872
 replace hV := hV hr_1872
 obtain ⟨hi_1874, hV⟩ := hV
 refine Wq.run rfl rfl rfl (ex_add rfl rfl hi_1874) ?_
 refine Wq.run rfl rfl rfl (ex_move rfl) ?_
 refine Wq.run rfl rfl rfl (ex_nilCheck rfl) ?_
 refine Wq.run rfl rfl rfl (ex_fieldAddr (o' := 3) Try.underlying79 rfl Try.sizeOf27 rfl rfl) ?_
 refine Wq.run rfl rfl rfl (ex_load_box Try.isAgg27 rfl rfl) ?_
 have hl_1875 : Len c_1792 := h_1795.bound
 replace hV := hV hl_1875
 refine Wq.run rfl rfl rfl (ex_len_own Try.underlying27 rfl h_1795) ?_
 refine Wq.run rfl rfl rfl (ex_lss rfl rfl) ?_
 refine Wq.nil fun w hS => ?_
 refine WQ.next ?_
 refine WC.sub (m := [(0, (pq b_2)), (1, v_35), (8, v_236), (12, i6 (ix c_232 x_928)), (13, i6 best_1804), (14, i6 least_1806), (76, v_204), (77, i6 (c_232.length : Int)), (78, i6 x_928), (116, .bool (decide (((ix c_1797 (ix c_232 x_928)) + 1) < (c_1792.length : Int))))]) ⟨rfl, rfl, rfl, rfl, rfl, rfl, rfl, rfl, rfl, rfl, trivial⟩ ?_
 refine WC.cond rfl ?_ ?_
 intro hc_2166
 replace hV := hV.1 (of_decide_eq_true hc_2166)
 refine WC.skip ?_
 refine WQ.next ?_
 refine WC.block ?_
 refine WC.sr ?_
 refine WL.mv rfl rfl ?_
 refine WL.mv rfl rfl ?_
 refine WL.run hS rfl rfl rfl (ex_nilCheck rfl) ?_
 refine WL.run hS rfl rfl rfl (ex_fieldAddr (o' := 4) Try.underlying79 rfl Try.sizeOf27 rfl rfl) ?_
 refine WL.run hS rfl rfl rfl (ex_load_box Try.isAgg27 rfl rfl) ?_
 refine WL.mv rfl rfl ?_
 obtain ⟨hin_1877, hV⟩ := hV
 refine WL.runx hS rfl rfl rfl (ex_index_own Try.underlying27 Try.sizeOf3 rfl rfl h_1800 hin_1877) ?_
 intro p_1878 hp_1879
 replace hS := hS.f6
 refine WL.runx hS rfl rfl rfl (exNow (H := H_229) (L := [(b_2, oc #[v_1780, v_1785, v_15, v_1793, v_1798, v_30] 79)] ++ (fp_1781 ++ (fp_1786 ++ (fp_1789 ++ (fp_1794 ++ (fp_1802 ++ (fp_259 ++ (fp_233 ++ L)))))))) (ex_load_own_s Try.isAgg3 rfl rfl h_1800 hp_1879 hin_1877)) ?_
 intro u_1880 hu_1881
 obtain ⟨rfl, hr_1882⟩ := cInt_rep hu_1881
 replace hr_1882 := has_I64 hr_1882
 replace hV := hV hr_1882
 replace hS := hS.f7.f2.f7.f7.f7.f7.f7
 refine WL.call rfl rfl rfl (enters0 (vs := [(pq b_2), i6 (ix c_1797 (ix c_232 x_928))]) Try.call18 ⟨rfl, rfl, trivial⟩) (S_Swap  h_1782 h_1787 h_1790 h_1795 h_1800 h_1803 hr_1882 hS hV) ?_
 clear hV hS
 rintro _ w ⟨r_1883, c_1884, c_1888, m_1892, c_1895, c_1899, m_1903, v_1885, fp_1886, v_1889, fp_1890, fp_1893, v_1896, fp_1897, v_1900, fp_1901, fp_1904, hV, rfl, h_1887, h_1891, h_1894, h_1898, h_1902, h_1905, hS⟩
 refine ⟨_, rfl, ?_⟩
 refine WL.nx ?_
 refine WC.sr ?_
 refine WL.mv rfl rfl ?_
 refine WL.mv rfl rfl ?_
 replace hS := hS.f7.f7.f7.f7.f7.f7.f7
 refine WL.call rfl rfl rfl (enters0 (vs := [(pq b_2), v_35]) Try.call47 ⟨rfl, rfl, trivial⟩) (S_Size  h_1887 h_1891 h_1894 h_1898 h_1902 h_1905 (h_36.mono le_230) hS hV) ?_
 clear hV hS
 rintro _ w ⟨r_1911, hV, rfl, hr_1912, hS⟩
 refine ⟨_, rfl, ?_⟩
 refine WL.ma rfl rfl ?_
 refine WL.nx ?_
 refine WC.sub (m := [(0, (pq b_2)), (1, v_35), (8, v_236), (12, i6 (ix c_232 x_928)), (13, i6 best_1804), (14, i6 least_1806), (15, i6 r_1911), (76, v_204), (77, i6 (c_232.length : Int)), (78, i6 x_928)]) ⟨rfl, rfl, rfl, rfl, rfl, rfl, rfl, rfl, rfl, rfl, trivial⟩ ?_
 refine WC.sr ?_
 refine WL.mv rfl rfl ?_
 refine WL.mv rfl rfl ?_
 refine WL.run hS rfl rfl rfl (ex_lss rfl rfl) ?_
 refine WL.nx ?_
 refine WC.cond rfl ?_ ?_
 intro hc_1921
 replace hV := hV.1 (of_decide_eq_true hc_1921)
 refine WC.region ?_
 refine WL.mv rfl rfl ?_
 refine WL.run hS rfl rfl rfl (ex_nilCheck rfl) ?_
 refine WL.run hS rfl rfl rfl (ex_fieldAddr (o' := 4) Try.underlying79 rfl Try.sizeOf27 rfl rfl) ?_
 refine WL.run hS rfl rfl rfl (ex_load_box Try.isAgg27 rfl rfl) ?_
 refine WL.mv rfl rfl ?_
 obtain ⟨hin_1915, hV⟩ := hV
 refine WL.runx hS rfl rfl rfl (ex_index_own Try.underlying27 Try.sizeOf3 rfl rfl h_1902 hin_1915) ?_
 intro p_1916 hp_1917
 replace hS := hS.f6
 refine WL.runx hS rfl rfl rfl (exNow (H := H_229) (L := [(b_2, oc #[v_1885, v_1889, v_15, v_1896, v_1900, v_30] 79)] ++ (fp_1886 ++ (fp_1890 ++ (fp_1893 ++ (fp_1897 ++ (fp_1904 ++ (fp_259 ++ (fp_233 ++ L)))))))) (ex_load_own_s Try.isAgg3 rfl rfl h_1902 hp_1917 hin_1915)) ?_
 intro u_1918 hu_1919
 obtain ⟨rfl, hr_1920⟩ := cInt_rep hu_1919
 replace hr_1920 := has_I64 hr_1920
 replace hV := hV hr_1920
 refine WL.mv rfl rfl ?_
 refine WL.ma rfl rfl ?_
 refine WL.ma rfl rfl ?_
 refine WL.nil ?_
 refine WQ.out nofun ?_
 replace hS := hS.f9.f9.f9.f4.f9.f9.f9.f9.f9
 exact WQ.there fun a ha => ⟨(c_1884, c_1888, m_1892, c_1895, c_1899, m_1903, (ix c_1899 (ix c_232 x_928)), r_1911), ⟨c_1884, c_1888, m_1892, c_1895, c_1899, m_1903, (ix c_1899 (ix c_232 x_928)), r_1911, v_1885, fp_1886, v_1889, fp_1890, fp_1893, v_1896, fp_1897, v_1900, fp_1901, fp_1904, rfl, hV.1, h_1887, h_1891, h_1894, h_1898, h_1902, h_1905, hr_1920, hr_1912, hS, ha.of_sub ⟨rfl, rfl, rfl, rfl, rfl, rfl, rfl, rfl, rfl, trivial⟩⟩, hV.2⟩
 intro hc_1921
 replace hV := hV.2 (of_decide_eq_false hc_1921)
 refine WC.skip ?_
 refine WQ.out nofun ?_
 replace hS := hS.f9.f9.f9.f9.f9.f9.f9.f9.f9
 exact WQ.there fun a ha => ⟨(c_1884, c_1888, m_1892, c_1895, c_1899, m_1903, best_1804, least_1806), ⟨c_1884, c_1888, m_1892, c_1895, c_1899, m_1903, best_1804, least_1806, v_1885, fp_1886, v_1889, fp_1890, fp_1893, v_1896, fp_1897, v_1900, fp_1901, fp_1904, rfl, hV.1, h_1887, h_1891, h_1894, h_1898, h_1902, h_1905, hr_1805, hr_1807, hS, ha.of_sub ⟨rfl, rfl, rfl, rfl, rfl, rfl, rfl, rfl, rfl, trivial⟩⟩, hV.2⟩
 intro hc_2166
 replace hV := hV.2 (of_decide_eq_false hc_2166)
 refine WC.exit ?_
 refine WQ.pass nofun ?_
 refine WQ.pass nofun ?_
 refine WQ.hit ?_
 refine WQ.next ?_
 refine WC.seq ?_
 refine WC.block ?_
 replace hS := hS.f9.f9.f9.f9.f9.f9.f9.f9.f9
 obtain ⟨I_2036, mu_2037, hI_2165, hV⟩ := hV
 refine WC.loop (σ := N3 × LI × M3 × LI × LI × M3) (fun s a w => ∃ (c_1967 : N3) (c_1972 : LI) (c_1976 : M3) (c_1980 : LI) (c_1985 : LI) (c_1989 : M3) (v_1968 : Value) (fp_1969 : Seg) (v_1973 : Value) (fp_1974 : Seg) (fp_1977 : Seg) (v_1981 : Value) (fp_1982 : Seg) (v_1986 : Value) (fp_1987 : Seg) (fp_1990 : Seg), s = (c_1967, c_1972, c_1976, c_1980, c_1985, c_1989) ∧ I_2036 (c_1967, c_1972, c_1976, c_1980, c_1985, c_1989) ∧ OwnSl H_229 (cPair (cInt .i64) (cPair (cInt .i64) (cInt .i64))) 81 v_1968 c_1967 fp_1969 ∧ OwnSl H_229 (cInt .i64) 32 v_1973 c_1972 fp_1974 ∧ OwnMp H_229 kTri (cInt .i64) v_15 c_1976 fp_1977 ∧ OwnSl H_229 (cInt .i64) 3 v_1981 c_1980 fp_1982 ∧ OwnSl H_229 (cInt .i64) 3 v_1986 c_1985 fp_1987 ∧ OwnMp H_229 kTri (cInt .i64) v_30 c_1989 fp_1990 ∧ St w0 H_229 ([(b_2, oc #[v_1968, v_1973, v_15, v_1981, v_1986, v_30] 79)] ++ (fp_1969 ++ (fp_1974 ++ (fp_1977 ++ (fp_1982 ++ (fp_1987 ++ (fp_1990 ++ (fp_259 ++ (fp_233 ++ L))))))))) w ∧ Fr 174 [(0, (pq b_2)), (1, v_35), (8, v_236), (12, i6 (ix c_232 x_928)), (13, i6 best_1804), (76, v_204), (77, i6 (c_232.length : Int)), (78, i6 x_928)] a) mu_2037 (c_1779, c_1784, c_1788, c_1792, c_1797, c_1801) ?_ ?_
 exact fun a ha => ⟨c_1779, c_1784, c_1788, c_1792, c_1797, c_1801, v_1780, fp_1781, v_1785, fp_1786, fp_1789, v_1793, fp_1794, v_1798, fp_1799, fp_1802, rfl, hI_2165, h_1782, h_1787, h_1790, h_1795, h_1800, h_1803, hS, ha.of_sub ⟨rfl, rfl, rfl, rfl, rfl, rfl, rfl, rfl, trivial⟩⟩
 clear hS hI_2165
 rintro _ a w ⟨c_1967, c_1972, c_1976, c_1980, c_1985, c_1989, v_1968, fp_1969, v_1973, fp_1974, fp_1977, v_1981, fp_1982, v_1986, fp_1987, fp_1990, rfl, hI, h_1970, h_1975, h_1978, h_1983, h_1988, h_1991, hS, ha⟩
 refine in_frame ha ?_
 clear ha
 replace hV := hV _ hI
 clear hI
 refine WC.seq ?_
 refine WC.sr ?_
 refine WL.mv rfl rfl ?_
 refine WL.run hS rfl rfl rfl (ex_nilCheck rfl) ?_
 refine WL.run hS rfl rfl rfl (ex_fieldAddr (o' := 4) Try.underlying79 rfl Try.sizeOf27 rfl rfl) ?_
 refine WL.run hS rfl rfl rfl (ex_load_box Try.isAgg27 rfl rfl) ?_
 refine WL.mv rfl rfl ?_
 obtain ⟨hin_2039, hV⟩ := hV
 refine WL.runx hS rfl rfl rfl (ex_index_own Try.underlying27 Try.sizeOf3 rfl rfl h_1988 hin_2039) ?_
 intro p_2040 hp_2041
 replace hS := hS.f6
 refine WL.runx hS rfl rfl rfl (exNow (H := H_229) (L := [(b_2, oc #[v_1968, v_1973, v_15, v_1981, v_1986, v_30] 79)] ++ (fp_1969 ++ (fp_1974 ++ (fp_1977 ++ (fp_1982 ++ (fp_1990 ++ (fp_259 ++ (fp_233 ++ L)))))))) (ex_load_own_s Try.isAgg3 rfl rfl h_1988 hp_2041 hin_2039)) ?_
 intro u_2042 hu_2043
 obtain ⟨rfl, hr_2044⟩ := cInt_rep hu_2043
 replace hr_2044 := has_I64 hr_2044
 replace hV := hV hr_2044
 refine WL.mv rfl rfl ?_
 refine WL.run hS rfl rfl rfl (ex_gtr rfl rfl) ?_
 refine WL.nx ?_
 refine WC.cond rfl ?_ ?_
 intro hc_2164
 replace hV := hV.1 (of_decide_eq_true hc_2164)
 refine WC.skip ?_
 refine WQ.next ?_
 refine WC.block ?_
 refine WC.region ?_
 refine WL.mv rfl rfl ?_
 refine WL.mv rfl rfl ?_
 refine WL.run hS rfl rfl rfl (ex_nilCheck rfl) ?_
 refine WL.run hS rfl rfl rfl (ex_fieldAddr (o' := 4) Try.underlying79 rfl Try.sizeOf27 rfl rfl) ?_
 replace hS := hS.f2
 refine WL.run hS rfl rfl rfl (ex_load_box Try.isAgg27 rfl rfl) ?_
 refine WL.mv rfl rfl ?_
 obtain ⟨hin_2046, hV⟩ := hV
 refine WL.runx hS rfl rfl rfl (ex_index_own Try.underlying27 Try.sizeOf3 rfl rfl h_1988 hin_2046) ?_
 intro p_2047 hp_2048
 replace hS := hS.f2
 refine WL.runx hS rfl rfl rfl (exNow (H := H_229) (L := [(b_2, oc #[v_1968, v_1973, v_15, v_1981, v_1986, v_30] 79)] ++ (fp_1969 ++ (fp_1974 ++ (fp_1977 ++ (fp_1982 ++ (fp_1990 ++ (fp_259 ++ (fp_233 ++ L)))))))) (ex_load_own_s Try.isAgg3 rfl rfl h_1988 hp_2048 hin_2046)) ?_
 intro u_2049 hu_2050
 obtain ⟨rfl, hr_2051⟩ := cInt_rep hu_2050
 replace hr_2051 := has_I64 hr_2051
 replace hV := hV hr_2051
 obtain ⟨hi_2053, hV⟩ := hV
 refine WL.run hS rfl rfl rfl (ex_sub rfl rfl hi_2053) ?_
 replace hS := hS.f7.f2.f7.f7.f7.f7.f7
 refine WL.call rfl rfl rfl (enters0 (vs := [(pq b_2), i6 ((ix c_1985 (ix c_232 x_928)) - 1)]) Try.call18 ⟨rfl, rfl, trivial⟩) (S_Swap  h_1970 h_1975 h_1978 h_1983 h_1988 h_1991 hi_2053 hS hV) ?_
 clear hV hS
 rintro _ w ⟨r_2054, c_2055, c_2059, m_2063, c_2066, c_2070, m_2074, v_2056, fp_2057, v_2060, fp_2061, fp_2064, v_2067, fp_2068, v_2071, fp_2072, fp_2075, hV, rfl, h_2058, h_2062, h_2065, h_2069, h_2073, h_2076, hS⟩
 refine ⟨_, rfl, ?_⟩
 refine WL.nil ?_
 refine WQ.out nofun ?_
 replace hS := hS.f9.f9.f9.f9.f9.f9.f9.f9.f9
 exact WQ.there fun a ha => ⟨(c_2055, c_2059, m_2063, c_2066, c_2070, m_2074), ⟨c_2055, c_2059, m_2063, c_2066, c_2070, m_2074, v_2056, fp_2057, v_2060, fp_2061, fp_2064, v_2067, fp_2068, v_2071, fp_2072, fp_2075, rfl, hV.1, h_2058, h_2062, h_2065, h_2069, h_2073, h_2076, hS, ha.of_sub ⟨rfl, rfl, rfl, rfl, rfl, rfl, rfl, rfl, trivial⟩⟩, hV.2⟩
 intro hc_2164
 replace hV := hV.2 (of_decide_eq_false hc_2164)
 refine WC.exit ?_
 refine WQ.pass nofun ?_
 refine WQ.pass nofun ?_
 refine WQ.hit ?_
 refine WQ.next ?_
 refine WC.sub (m := [(0, (pq b_2)), (1, v_35), (8, v_236), (76, v_204), (77, i6 (c_232.length : Int)), (78, i6 x_928)]) ⟨rfl, rfl, rfl, rfl, rfl, rfl, trivial⟩ ?_
 refine WC.sr ?_
 refine WL.makeMap (κ := Int) (ν := Int) (kc := kInt) (c := (cInt .i64)) rfl hS ?_
 clear hS
 intro v_2082 w fp_2083 h_2084 hS
 refine WL.alloc (arr := #[.map none]) rfl Try.zeroValue87 rfl hS ?_
 clear hS
 intro b_2086 w hS
 refine WL.store_box (pre := []) (old := [.map none]) (rst := []) (cs := [v_2082]) (arr' := #[v_2082]) Try.sizeOf87 rfl rfl (congrArg Array.toList (cells_one (OwnMp.one h_2084))) ⟨(OwnMp.one h_2084), trivial⟩ rfl rfl rfl rfl hS ?_
 clear hS
 intro w hS
 refine WL.nx ?_
 refine WC.seq ?_
 refine WC.sr ?_
 refine WL.mv rfl rfl ?_
 replace hS := hS.f10
 refine WL.range rfl Try.underlying87 rfl hS h_260 ?_
 clear hS
 intro b_2088 w fp_2089 h_2090 hS
 refine WL.nx ?_
 refine WC.block ?_
 replace hS := hS.f12.f5.f5.f5.f12.f7.f12.f12.f12.f12.f12
 obtain ⟨I_2130, mu_2131, hI_2163, hV⟩ := hV
 refine WC.loop (σ := M1 × LI) (fun s a w => ∃ (c_2108 : M1) (sn_2111 : LI) (fp_2109 : Seg) (fp_2112 : Seg), s = (c_2108, sn_2111) ∧ I_2130 (c_2108, sn_2111) ∧ OwnMp H_229 kInt (cInt .i64) v_2082 c_2108 fp_2109 ∧ ItOk kInt fp_259 ((pq b_2088)) fp_2112 sn_2111 ∧ St w0 H_229 ([(b_2, oc #[v_1968, v_1973, v_15, v_1981, v_1986, v_30] 79)] ++ (fp_1969 ++ (fp_1974 ++ (fp_1977 ++ (fp_1982 ++ (fp_1987 ++ (fp_1990 ++ (fp_259 ++ ([(b_2086, oc #[v_2082] 87)] ++ (fp_2109 ++ (fp_233 ++ (fp_2112 ++ L)))))))))))) w ∧ Fr 174 [(0, (pq b_2)), (1, v_35), (8, v_236), (16, (pq b_2086)), (76, v_204), (77, i6 (c_232.length : Int)), (78, i6 x_928), (161, (pq b_2088))] a) mu_2131 (([] : M1), ([] : LI)) ?_ ?_
 exact fun a ha => ⟨([] : M1), ([] : LI), fp_2083, fp_2089, rfl, hI_2163, h_2084, h_2090, hS, ha.of_sub ⟨rfl, rfl, rfl, rfl, rfl, rfl, rfl, rfl, trivial⟩⟩
 clear hS hI_2163
 rintro _ a w ⟨c_2108, sn_2111, fp_2109, fp_2112, rfl, hI, h_2110, h_2113, hS, ha⟩
 refine in_frame ha ?_
 clear ha
 replace hV := hV _ hI
 clear hI
 refine WC.sr ?_
 replace hS := hS.f8.f12
 refine WL.next (sn := sn_2111) rfl rfl rfl hS h_260 h_2113 ?_ ?_
 clear hS
 intro hh_2133 w hS
 replace hV := hV.1 hh_2133
 refine WL.run hS rfl rfl rfl (ex_extract rfl rfl) ?_
 refine WL.nx ?_
 refine WC.seq ?_
 refine WC.cond_false rfl ?_
 refine WC.exit ?_
 refine WQ.pass nofun ?_
 refine WQ.pass nofun ?_
 refine WQ.hit ?_
 refine WQ.next ?_
 replace hS := hS.drop
 refine WC.region ?_
 refine WL.mv rfl rfl ?_
 refine WL.run hS rfl rfl rfl (ex_makeFunc (vs := [(pq b_2086)]) ⟨rfl, trivial⟩) ?_
 replace hS := hS.f10.f10.f10.f10.f10.f10.f10.f10.f10
 refine WL.call rfl rfl rfl (enters0 (vs := [(pq b_2), .func (.func 58) #[] #[(pq b_2086)]]) Try.call57 ⟨rfl, rfl, trivial⟩) (S_forgetS  h_1970 h_1975 h_1978 h_1983 h_1988 h_1991 h_2110 hS hV) ?_
 clear hV hS
 rintro _ w ⟨c_2134, m_2138, m_2141, v_2135, fp_2136, fp_2139, fp_2142, hV, rfl, h_2137, h_2140, h_2143, hS⟩
 refine ⟨_, rfl, ?_⟩
 refine WL.nil ?_
 refine WQ.out nofun ?_
 refine WQ.next ?_
 replace hS := hS.f8.drop
 replace hS := hS.f8.drop
 refine WC.region ?_
 obtain ⟨hi_2147, hV⟩ := hV
 refine WL.run hS rfl rfl rfl (ex_add rfl rfl hi_2147) ?_
 refine WL.mv rfl rfl ?_
 refine WL.nil ?_
 replace hS := hS.f9.f9.f9.f9.f9.f9.f9.f9.f9
 exact WQ.there fun a ha => ⟨(c_1967, c_2134, m_2138, c_1980, c_1985, m_2141, (x_928 + 1)), ⟨c_1967, c_2134, m_2138, c_1980, c_1985, m_2141, (x_928 + 1), v_1968, fp_1969, v_2135, fp_2136, fp_2139, v_1981, fp_1982, v_1986, fp_1987, fp_2142, rfl, hV.1, h_1970, h_2137, h_2140, h_1983, h_1988, h_2143, hi_2147, hS, ha.of_sub ⟨rfl, rfl, rfl, rfl, rfl, rfl, trivial⟩⟩, hV.2⟩
 clear hS
 intro k_2148 e_2149 u_2150 w fp_2151 h_2152 h_2153 h_2154 h_2155 h_2156 h_2157 hS
 obtain ⟨rfl, hr_2158⟩ := cInt_rep h_2155
 replace hr_2158 := has_I64 hr_2158
 replace hV := hV.2 k_2148 e_2149 h_2152 h_2153 h_2154 hr_2158
 refine WL.run hS rfl rfl rfl (ex_extract rfl rfl) ?_
 refine WL.nx ?_
 refine WC.seq ?_
 refine WC.cond_true rfl ?_
 refine WC.skip ?_
 refine WQ.next ?_
 refine WC.block ?_
 refine WC.sr ?_
 replace hS := hS.f2.f2
 refine WL.run hS rfl rfl rfl (ex_entry (H := H_229) rfl h_2156 h_2157) ?_
 refine WL.run hS rfl rfl rfl (ex_extract rfl rfl) ?_
 refine WL.ma rfl rfl ?_
 refine WL.nx ?_
 refine WC.region ?_
 refine WL.mv rfl rfl ?_
 refine WL.mv rfl rfl ?_
 replace hS := hS.f10
 refine WL.run hS rfl rfl rfl (ex_load_box Try.isAgg87 rfl rfl) ?_
 replace hS := hS.f11.f11.f11.f11.f11.f11.f11.f11
 obtain ⟨mf, hV⟩ := hV
 refine WL.call rfl rfl rfl (enters0 (vs := [(pq b_2), i6 k_2148, v_2082]) Try.call56 ⟨rfl, rfl, rfl, trivial⟩) (S_below mf  h_1970 h_1975 h_1978 h_1983 h_1988 h_1991 h_2154 h_2110 hS hV) ?_
 clear hV hS
 rintro _ w ⟨m_2159, fp_2160, hV, rfl, h_2161, hS⟩
 refine ⟨_, rfl, ?_⟩
 refine WL.nil ?_
 refine WQ.out nofun ?_
 replace hS := hS.f10.f12.f10.f11.f12.f12.f12.f12.f12.f12.f12.f12
 exact WQ.there fun a ha => ⟨(m_2159, (k_2148 :: sn_2111)), ⟨m_2159, (k_2148 :: sn_2111), fp_2160, fp_2151, rfl, hV.1, h_2161, h_2156, hS, ha.of_sub ⟨rfl, rfl, rfl, rfl, rfl, rfl, rfl, rfl, trivial⟩⟩, hV.2⟩
 intro hc_2170
 replace hV := hV.2 (of_decide_eq_false hc_2170)
 refine WC.exit ?_
 refine WQ.pass nofun ?_
 refine WQ.pass nofun ?_
 refine WQ.hit ?_
 replace hS := hS.f8.drop
 replace hS := hS.f8.drop
 replace hS := hS.f7.f7.f7.f7.f7.f7.f7
 exact leave0 (.inr rfl) rfl ⟨c_903, c_908, c_912, c_916, c_921, c_925, v_904, fp_905, v_909, fp_910, fp_913, v_917, fp_918, v_922, fp_923, fp_926, hV, rfl, (rep_own h_906 (fun _ _ h => h)), (rep_own h_911 (fun _ _ h => h)), (rep_map h_914 (fun _ _ h => h)), (rep_own h_919 (fun _ _ h => h)), (rep_own h_924 (fun _ _ h => h)), (rep_map h_927 (fun _ _ h => h)), (hS.weaken ((View.le.refl _).trans le_230))⟩
 clear hS
 intro k_2172 e_2173 u_2174 w fp_2175 h_2176 h_2177 h_2178 h_2179 h_2180 h_2181 hS
 obtain ⟨rfl, hr_2182⟩ := cInt_rep h_2179
 replace hr_2182 := has_I64 hr_2182
 replace hV := hV.2 k_2172 e_2173 h_2176 h_2177 h_2178 hr_2182
 refine WL.run hS rfl rfl rfl (ex_extract rfl rfl) ?_
 refine WL.nx ?_
 refine WC.seq ?_
 refine WC.cond_true rfl ?_
 refine WC.skip ?_
 refine WQ.next ?_
 refine WC.block ?_
 refine WC.sr ?_
 replace hS := hS.f2.f2
 refine WL.run hS rfl rfl rfl (ex_entry (H := H_229) rfl h_2180 h_2181) ?_
 refine WL.run hS rfl rfl rfl (ex_extract rfl rfl) ?_
 refine WL.ma rfl rfl ?_
 refine WL.nx ?_
 refine WC.region ?_
 refine WL.mv rfl rfl ?_
 refine WL.mv rfl rfl ?_
 replace hS := hS.f10
 refine WL.mapUpdate (k := e_2173) (e := 1) Try.underlying87 Try.key32 hr_2182 (cInt_mk (I64.has (by unfold I64; omega))) rfl rfl rfl hS h_260 ?_
 clear hS
 intro w fp_2183 h_2184 hS
 refine WL.nil ?_
 refine WQ.out nofun ?_
 replace hS := hS.f2.f2.f10.f10.f10.f10.f7.f10.f10.f10
 exact WQ.there fun a ha => ⟨((mset old_258 e_2173 1), (k_2172 :: sn_261)), ⟨(mset old_258 e_2173 1), (k_2172 :: sn_261), fp_2183, fp_2175, rfl, hV.1, h_2184, h_2180, hS, ha.of_sub ⟨rfl, rfl, rfl, rfl, rfl, trivial⟩⟩, hV.2⟩
 clear hS
 intro k_2188 e_2189 u_2190 w fp_2191 h_2192 h_2193 h_2194 h_2195 h_2196 h_2197 hS
 obtain ⟨rfl, hr_2198⟩ := cInt_rep h_2195
 replace hr_2198 := has_I64 hr_2198
 replace hV := hV.2 k_2188 e_2189 h_2192 h_2193 h_2194 hr_2198
 refine WL.run hS rfl rfl rfl (ex_extract rfl rfl) ?_
 refine WL.nx ?_
 refine WC.seq ?_
 refine WC.cond_true rfl ?_
 refine WC.skip ?_
 refine WQ.next ?_
 refine WC.block ?_
 refine WC.sr ?_
 replace hS := hS.f2.f2
 refine WL.run hS rfl rfl rfl (ex_entry (H := H) rfl h_2196 h_2197) ?_
 refine WL.run hS rfl rfl rfl (ex_extract rfl rfl) ?_
 refine WL.ma rfl rfl ?_
 refine WL.nx ?_
 refine WC.drawn (σ := [0, 1, 2, 3, 4, 5, 6, 7, 8, 9, 10, 11, 12, 13]) (C := St w0 H (fp_2191 ++ (fp_48 ++ ([(b_2, oc #[v_5, v_10, v_15, v_20, v_25, v_30] 79)] ++ (fp_7 ++ (fp_12 ++ (fp_17 ++ (fp_22 ++ (fp_27 ++ (fp_32 ++ ([(b_43, oc #[v_117] 27)] ++ (fp_118 ++ L)))))))))))) [[], [], [1], [1, 2], [1, 2, 3], [], [1, 2, 3, 4, 5], [1, 2, 3, 4, 5, 6], [1, 2, 3, 4, 5, 6, 7], [0, 1, 2, 3, 4, 5, 6, 7, 8], [0, 1, 2, 3, 4, 5, 6, 7, 8, 9], [0, 1, 2, 3, 4, 5, 6, 7, 8, 9, 10], [0, 1, 2, 3, 4, 5, 6, 7, 8, 9, 10, 11], [0, 1, 2, 3, 4, 5, 6, 7, 8, 9, 10, 11, 12]] [13] Try.mixed (by kernel_rfl) (hS.drawn _) ?_
 clear hS w
 refine Wd.runb (off := 0) rfl rfl rfl rfl (fun _ _ _ h => ex_load_box Try.isAgg27 rfl h) rfl (fun _ h => St.f10 h) fun q_2200 hq_2199 => ?_
 refine Wd.run rfl rfl rfl rfl (fun _ => ex_move rfl) fun q_2202 hq_2201 => ?_
 refine Wd.run rfl rfl rfl rfl (fun _ => ex_nilCheck rfl) fun q_2204 hq_2203 => ?_
 refine Wd.run rfl rfl rfl rfl (fun _ => ex_fieldAddr (o' := 0) Try.underlying79 rfl Try.sizeOf75 rfl rfl) fun q_2206 hq_2205 => ?_
 refine Wd.runb (off := 0) rfl rfl rfl rfl (fun _ _ _ h => ex_load_box Try.isAgg75 rfl h) rfl (fun _ h => St.f3 h) fun q_2208 hq_2207 => ?_
 refine Wd.run rfl rfl rfl rfl (fun _ => ex_move rfl) fun q_2210 hq_2209 => ?_
 obtain ⟨hin_2213, hV⟩ := hV
 refine Wd.runx rfl rfl rfl rfl (exAll (ex_index_own Try.underlying75 Try.sizeOf81 rfl rfl h_6 hin_2213)) ?_
 intro p_2214 hp_2215
 intro q_2212 hq_2211
 refine Wd.runx rfl rfl rfl rfl (exAll (ex_fieldAddr_own Try.underlying81 rfl Try.sizeOf3 rfl hp_2215)) ?_
 intro p_2219 hp_2218
 intro q_2217 hq_2216
 refine Wd.runs (fp := fp_7) rfl rfl rfl rfl (ex_load_ownpart (d := (cInt .i64)) Try.isAgg3 rfl rfl h_6 hp_2218 hin_2213 Part.fst) (fun _ h => St.f4 h) ?_
 intro u_2222 hu_2223
 obtain ⟨rfl, hr_2224⟩ := cInt_rep hu_2223
 replace hr_2224 := has_I64 hr_2224
 replace hV := hV hr_2224
 intro q_2221 hq_2220
 obtain ⟨hin_2227, hV⟩ := hV
 refine Wd.runx rfl rfl rfl rfl (exAll (ex_index_own Try.underlying27 Try.sizeOf3 rfl rfl h_119 hin_2227)) ?_
 intro p_2228 hp_2229
 intro q_2226 hq_2225
 refine Wd.runs (fp := fp_118) rfl rfl rfl rfl (ex_load_own_s Try.isAgg3 rfl rfl h_119 hp_2229 hin_2227) (fun _ h => St.f11 h) ?_
 intro u_2232 hu_2233
 obtain ⟨rfl, hr_2234⟩ := cInt_rep hu_2233
 replace hr_2234 := has_I64 hr_2234
 replace hV := hV hr_2234
 intro q_2231 hq_2230
 obtain ⟨hi_2238, hV⟩ := hV
 refine Wd.run rfl rfl rfl rfl (fun _ => ex_add rfl rfl hi_2238) fun q_2236 hq_2235 => ?_
 obtain ⟨hin_2241, hV⟩ := hV
 refine Wd.runx rfl rfl rfl rfl (exAll (ex_index_own Try.underlying27 Try.sizeOf3 rfl rfl h_119 hin_2241)) ?_
 intro p_2242 hp_2243
 intro q_2240 hq_2239
 refine Wd.turn rfl rfl rfl fun w hS => ?_
 replace hS := hS.f11
 refine WL.store_own Try.sizeOf3 rfl rfl rfl (cInt_mk (I64.has hi_2238)) hS h_119 hp_2243 hin_2241 ?_
 clear hS
 intro w fp_2245 h_2244 hS
 refine WL.nil (DQ.mk2 (C' := St w0 H (fp_2245 ++ (fp_2191 ++ (fp_48 ++ ([(b_2, oc #[v_5, v_10, v_15, v_20, v_25, v_30] 79)] ++ (fp_7 ++ (fp_12 ++ (fp_17 ++ (fp_22 ++ (fp_27 ++ (fp_32 ++ ([(b_43, oc #[v_117] 27)] ++ L)))))))))))) hS ⟨il, il, il, il, il, il, il, il, il, il, il, il, il, trivial⟩ ?_)
 clear hS w
 refine Wd.nil fun w hS => ?_
 refine WQ.out nofun ?_
 replace hS := hS.f2.f3.f3.f11.f11.f11.f11.f11.f11.f11.f11
 exact WQ.there fun a ha => ⟨((c_116.set ((ix nodes_4 k_2188).1).toNat ((ix c_116 ((ix nodes_4 k_2188).1)) + 1)), (k_2188 :: sn_120)), ⟨(c_116.set ((ix nodes_4 k_2188).1).toNat ((ix c_116 ((ix nodes_4 k_2188).1)) + 1)), (k_2188 :: sn_120), v_117, fp_2245, fp_2191, rfl, hV.1, h_2244, h_2196, hS, ha.of_sub ⟨rfl, rfl, rfl, rfl, trivial⟩⟩, hV.2⟩

theorem S_sameInts {w0 : World} {H : View} {L : Seg} {w : World} {v_2 : Value} {a_1 : LI} {v_5 : Value} {b_4 : LI} {Q : Bool → Prop} (h_3 : IsSl H (cInt .i64) v_2 a_1) (h_6 : IsSl H (cInt .i64) v_5 b_4) (hS : St w0 H (L) w) (hV : V_sameInts a_1 b_4 Q) :
 Calls Try.prog 25 #[v_2, v_5] w fun e w' => ∃ (r1 : Bool), Q r1 ∧ e = .returned (.bool r1) ∧ St w0 H (L) w' := by
 unfold V_sameInts at hV
 refine enter Try.func25 rfl Try.ntmps25 rfl (lk_args_cons (d := 0) (v := v_2) rfl (lk_args_cons (d := 1) (v := v_5) rfl (lk_args_nil _))) ?_
 refine WC.sr ?_
 refine WL.ma rfl rfl ?_
 refine WL.nx ?_
 refine WC.seq ?_
 refine WC.sr ?_
 refine WL.mv rfl rfl ?_
 have hl_7 : Len a_1 := h_3.bound
 replace hV := hV hl_7
 refine WL.run hS rfl rfl rfl (ex_len_sl Try.underlying27 rfl h_3) ?_
 refine WL.mv rfl rfl ?_
 have hl_8 : Len b_4 := h_6.bound
 replace hV := hV hl_8
 refine WL.run hS rfl rfl rfl (ex_len_sl Try.underlying27 rfl h_6) ?_
 refine WL.run hS rfl rfl rfl (ex_neq rfl rfl) ?_
 refine WL.nx ?_
 refine WC.cond rfl ?_ ?_
 intro hc_73
 replace hV := hV.1 (of_decide_eq_true hc_73)
 refine WC.sr ?_
 refine WL.ma rfl rfl ?_
 refine WL.nx ?_
 refine WC.ret ?_
 refine WQ.pass nofun ?_
 exact leave1 rfl rfl ⟨false, hV, rfl, hS⟩
 intro hc_73
 replace hV := hV.2 (of_decide_eq_false hc_73)
 refine WC.skip ?_
 refine WQ.next ?_
 refine WC.seq ?_
 refine WC.sr ?_
 refine WL.ma rfl rfl ?_
 refine WL.nx ?_
 refine WC.block ?_
 obtain ⟨I_50, mu_51, hI_72, hV⟩ := hV
 refine WC.loop (σ := Int) (fun s a w => ∃ (i_29 : Int), s = i_29 ∧ I_50 i_29 ∧ I64 i_29 ∧ St w0 H (L) w ∧ Fr 26 [(0, v_2), (1, v_5), (5, i6 i_29)] a) mu_51 0 ?_ ?_
 exact fun a ha => ⟨0, rfl, hI_72, (by unfold I64; omega), hS, ha.of_sub ⟨rfl, rfl, rfl, trivial⟩⟩
 clear hS hI_72
 rintro i_29 a w ⟨_, rfl, hI, hr_30, hS, ha⟩
 refine in_frame ha ?_
 clear ha
 replace hV := hV _ hI
 clear hI
 refine WC.seq ?_
 refine WC.sr ?_
 refine WL.mv rfl rfl ?_
 refine WL.mv rfl rfl ?_
 have hl_53 : Len a_1 := h_3.bound
 replace hV := hV hl_53
 refine WL.run hS rfl rfl rfl (ex_len_sl Try.underlying27 rfl h_3) ?_
 refine WL.run hS rfl rfl rfl (ex_lss rfl rfl) ?_
 refine WL.nx ?_
 refine WC.cond rfl ?_ ?_
 intro hc_71
 replace hV := hV.1 (of_decide_eq_true hc_71)
 refine WC.skip ?_
 refine WQ.next ?_
 refine WC.seq ?_
 refine WC.block ?_
 refine WC.seq ?_
 refine WC.quiet (C := St w0 H (L)) Try.mixed (by kernel_rfl) (hS.drawn _) ?_
 clear hS w
 refine Wq.run rfl rfl rfl (ex_move rfl) ?_
 refine Wq.run rfl rfl rfl (ex_move rfl) ?_
 obtain ⟨hin_55, hV⟩ := hV
 refine Wq.runx rfl rfl rfl (ex_index Try.underlying27 Try.sizeOf3 rfl rfl h_3 hin_55) ?_
 intro p_56 hp_57
 refine Wq.runx rfl rfl rfl (ex_load Try.isAgg3 rfl rfl hp_57) ?_
 intro u_58 hu_59
 obtain ⟨rfl, hr_60⟩ := cInt_rep hu_59
 replace hr_60 := has_I64 hr_60
 replace hV := hV hr_60
 refine Wq.run rfl rfl rfl (ex_move rfl) ?_
 refine Wq.run rfl rfl rfl (ex_move rfl) ?_
 obtain ⟨hin_61, hV⟩ := hV
 refine Wq.runx rfl rfl rfl (ex_index Try.underlying27 Try.sizeOf3 rfl rfl h_6 hin_61) ?_
 intro p_62 hp_63
 refine Wq.runx rfl rfl rfl (ex_load Try.isAgg3 rfl rfl hp_63) ?_
 intro u_64 hu_65
 obtain ⟨rfl, hr_66⟩ := cInt_rep hu_65
 replace hr_66 := has_I64 hr_66
 replace hV := hV hr_66
 refine Wq.run rfl rfl rfl (ex_neq rfl rfl) ?_
 refine Wq.nil fun w hS => ?_
 refine WQ.next ?_
 refine WC.sub (m := [(0, v_2), (1, v_5), (5, i6 i_29), (25, .bool (decide ((ix a_1 i_29) ≠ (ix b_4 i_29))))]) ⟨rfl, rfl, rfl, rfl, trivial⟩ ?_
 refine WC.cond rfl ?_ ?_
 intro hc_70
 replace hV := hV.1 (of_decide_eq_true hc_70)
 refine WC.sr ?_
 refine WL.ma rfl rfl ?_
 refine WL.nx ?_
 refine WC.ret ?_
 refine WQ.out nofun ?_
 refine WQ.pass nofun ?_
 refine WQ.pass nofun ?_
 refine WQ.out nofun ?_
 refine WQ.pass nofun ?_
 exact leave1 rfl rfl ⟨false, hV, rfl, hS⟩
 intro hc_70
 replace hV := hV.2 (of_decide_eq_false hc_70)
 refine WC.skip ?_
 refine WQ.out nofun ?_
 refine WQ.next ?_
 refine WC.region ?_
 refine WL.mv rfl rfl ?_
 obtain ⟨hi_69, hV⟩ := hV
 refine WL.run hS rfl rfl rfl (ex_add rfl rfl hi_69) ?_
 refine WL.ma rfl rfl ?_
 refine WL.nil ?_
 exact WQ.there fun a ha => ⟨(i_29 + 1), ⟨(i_29 + 1), rfl, hV.1, hi_69, hS, ha.of_sub ⟨rfl, rfl, rfl, trivial⟩⟩, hV.2⟩
 intro hc_71
 replace hV := hV.2 (of_decide_eq_false hc_71)
 refine WC.exit ?_
 refine WQ.pass nofun ?_
 refine WQ.pass nofun ?_
 refine WQ.hit ?_
 refine WQ.next ?_
 refine WC.sr ?_
 refine WL.ma rfl rfl ?_
 refine WL.nx ?_
 refine WC.ret ?_
 exact leave1 rfl rfl ⟨true, hV, rfl, hS⟩

theorem S_sameTruths {w0 : World} {H : View} {L : Seg} {w : World} {v_2 : Value} {a_1 : List Bool} {v_5 : Value} {b_4 : List Bool} {Q : Bool → Prop} (h_3 : IsSl H cBool v_2 a_1) (h_6 : IsSl H cBool v_5 b_4) (hS : St w0 H (L) w) (hV : V_sameTruths a_1 b_4 Q) :
 Calls Try.prog 46 #[v_2, v_5] w fun e w' => ∃ (r1 : Bool), Q r1 ∧ e = .returned (.bool r1) ∧ St w0 H (L) w' := by
 unfold V_sameTruths at hV
 refine enter Try.func46 rfl Try.ntmps46 rfl (lk_args_cons (d := 0) (v := v_2) rfl (lk_args_cons (d := 1) (v := v_5) rfl (lk_args_nil _))) ?_
 refine WC.sr ?_
 refine WL.ma rfl rfl ?_
 refine WL.nx ?_
 refine WC.seq ?_
 refine WC.sr ?_
 refine WL.mv rfl rfl ?_
 have hl_7 : Len a_1 := h_3.bound
 replace hV := hV hl_7
 refine WL.run hS rfl rfl rfl (ex_len_sl Try.underlying28 rfl h_3) ?_
 refine WL.mv rfl rfl ?_
 have hl_8 : Len b_4 := h_6.bound
 replace hV := hV hl_8
 refine WL.run hS rfl rfl rfl (ex_len_sl Try.underlying28 rfl h_6) ?_
 refine WL.run hS rfl rfl rfl (ex_neq rfl rfl) ?_
 refine WL.nx ?_
 refine WC.cond rfl ?_ ?_
 intro hc_64
 replace hV := hV.1 (of_decide_eq_true hc_64)
 refine WC.sr ?_
 refine WL.ma rfl rfl ?_
 refine WL.nx ?_
 refine WC.ret ?_
 refine WQ.pass nofun ?_
 exact leave1 rfl rfl ⟨false, hV, rfl, hS⟩
 intro hc_64
 replace hV := hV.2 (of_decide_eq_false hc_64)
 refine WC.skip ?_
 refine WQ.next ?_
 refine WC.seq ?_
 refine WC.sr ?_
 refine WL.ma rfl rfl ?_
 refine WL.nx ?_
 refine WC.block ?_
 obtain ⟨I_44, mu_45, hI_63, hV⟩ := hV
 refine WC.loop (σ := Int) (fun s a w => ∃ (i_26 : Int), s = i_26 ∧ I_44 i_26 ∧ I64 i_26 ∧ St w0 H (L) w ∧ Fr 26 [(0, v_2), (1, v_5), (5, i6 i_26)] a) mu_45 0 ?_ ?_
 exact fun a ha => ⟨0, rfl, hI_63, (by unfold I64; omega), hS, ha.of_sub ⟨rfl, rfl, rfl, trivial⟩⟩
 clear hS hI_63
 rintro i_26 a w ⟨_, rfl, hI, hr_27, hS, ha⟩
 refine in_frame ha ?_
 clear ha
 replace hV := hV _ hI
 clear hI
 refine WC.seq ?_
 refine WC.sr ?_
 refine WL.mv rfl rfl ?_
 refine WL.mv rfl rfl ?_
 have hl_47 : Len a_1 := h_3.bound
 replace hV := hV hl_47
 refine WL.run hS rfl rfl rfl (ex_len_sl Try.underlying28 rfl h_3) ?_
 refine WL.run hS rfl rfl rfl (ex_lss rfl rfl) ?_
 refine WL.nx ?_
 refine WC.cond rfl ?_ ?_
 intro hc_62
 replace hV := hV.1 (of_decide_eq_true hc_62)
 refine WC.skip ?_
 refine WQ.next ?_
 refine WC.seq ?_
 refine WC.block ?_
 refine WC.seq ?_
 refine WC.quiet (C := St w0 H (L)) Try.mixed (by kernel_rfl) (hS.drawn _) ?_
 clear hS w
 refine Wq.run rfl rfl rfl (ex_move rfl) ?_
 refine Wq.run rfl rfl rfl (ex_move rfl) ?_
 obtain ⟨hin_49, hV⟩ := hV
 refine Wq.runx rfl rfl rfl (ex_index Try.underlying28 Try.sizeOf4 rfl rfl h_3 hin_49) ?_
 intro p_50 hp_51
 refine Wq.runx rfl rfl rfl (ex_load Try.isAgg4 rfl rfl hp_51) ?_
 intro u_52 hu_53
 obtain rfl := cBool_rep hu_53
 refine Wq.run rfl rfl rfl (ex_move rfl) ?_
 refine Wq.run rfl rfl rfl (ex_move rfl) ?_
 obtain ⟨hin_54, hV⟩ := hV
 refine Wq.runx rfl rfl rfl (ex_index Try.underlying28 Try.sizeOf4 rfl rfl h_6 hin_54) ?_
 intro p_55 hp_56
 refine Wq.runx rfl rfl rfl (ex_load Try.isAgg4 rfl rfl hp_56) ?_
 intro u_57 hu_58
 obtain rfl := cBool_rep hu_58
 refine Wq.run rfl rfl rfl (ex_bneq Try.underlying4 rfl rfl) ?_
 refine Wq.nil fun w hS => ?_
 refine WQ.next ?_
 refine WC.sub (m := [(0, v_2), (1, v_5), (5, i6 i_26), (25, .bool (!((ix a_1 i_26) == (ix b_4 i_26))))]) ⟨rfl, rfl, rfl, rfl, trivial⟩ ?_
 refine WC.cond rfl ?_ ?_
 intro hc_61
 replace hV := hV.1 hc_61
 refine WC.sr ?_
 refine WL.ma rfl rfl ?_
 refine WL.nx ?_
 refine WC.ret ?_
 refine WQ.out nofun ?_
 refine WQ.pass nofun ?_
 refine WQ.pass nofun ?_
 refine WQ.out nofun ?_
 refine WQ.pass nofun ?_
 exact leave1 rfl rfl ⟨false, hV, rfl, hS⟩
 intro hc_61
 replace hV := hV.2 hc_61
 refine WC.skip ?_
 refine WQ.out nofun ?_
 refine WQ.next ?_
 refine WC.region ?_
 refine WL.mv rfl rfl ?_
 obtain ⟨hi_60, hV⟩ := hV
 refine WL.run hS rfl rfl rfl (ex_add rfl rfl hi_60) ?_
 refine WL.ma rfl rfl ?_
 refine WL.nil ?_
 exact WQ.there fun a ha => ⟨(i_26 + 1), ⟨(i_26 + 1), rfl, hV.1, hi_60, hS, ha.of_sub ⟨rfl, rfl, rfl, trivial⟩⟩, hV.2⟩
 intro hc_62
 replace hV := hV.2 (of_decide_eq_false hc_62)
 refine WC.exit ?_
 refine WQ.pass nofun ?_
 refine WQ.pass nofun ?_
 refine WQ.hit ?_
 refine WQ.next ?_
 refine WC.sr ?_
 refine WL.ma rfl rfl ?_
 refine WL.nx ?_
 refine WC.ret ?_
 exact leave1 rfl rfl ⟨true, hV, rfl, hS⟩

theorem S_Spoil {w0 : World} {H : View} {L : Seg} {w : World} {v_2 : Value} {l_1 : LI} {fp_4 : Seg} {Q : Prop} (h_3 : OwnSl H (cInt .i64) 3 v_2 l_1 fp_4) (hS : St w0 H (fp_4 ++ L) w) (hV : V_Spoil l_1 Q) :
 Calls Try.prog 26 #[v_2] w fun e w' => Q ∧ e = .returned (.tuple #[]) ∧ St w0 H (L) w' := by
 unfold V_Spoil at hV
 refine enter Try.func26 rfl Try.ntmps26 rfl (lk_args_cons (d := 0) (v := v_2) rfl (lk_args_nil _)) ?_
 refine WC.seq ?_
 refine WC.sr ?_
 refine WL.ma rfl rfl ?_
 refine WL.nx ?_
 refine WC.block ?_
 obtain ⟨I_33, mu_34, hI_55, hV⟩ := hV
 refine WC.loop (σ := LI × Int) (fun s a w => ∃ (l_17 : LI) (i_21 : Int) (v_18 : Value) (fp_19 : Seg), s = (l_17, i_21) ∧ I_33 (l_17, i_21) ∧ OwnSl H (cInt .i64) 3 v_18 l_17 fp_19 ∧ I64 i_21 ∧ St w0 H (fp_19 ++ L) w ∧ Fr 15 [(0, v_18), (2, i6 i_21)] a) mu_34 (l_1, 0) ?_ ?_
 exact fun a ha => ⟨l_1, 0, v_2, fp_4, rfl, hI_55, h_3, (by unfold I64; omega), hS, ha.of_sub ⟨rfl, rfl, trivial⟩⟩
 clear hS hI_55
 rintro _ a w ⟨l_17, i_21, v_18, fp_19, rfl, hI, h_20, hr_22, hS, ha⟩
 refine in_frame ha ?_
 clear ha
 replace hV := hV _ hI
 clear hI
 refine WC.seq ?_
 refine WC.sr ?_
 refine WL.mv rfl rfl ?_
 refine WL.mv rfl rfl ?_
 have hl_36 : Len l_17 := h_20.bound
 replace hV := hV hl_36
 refine WL.run hS rfl rfl rfl (ex_len_own Try.underlying27 rfl h_20) ?_
 refine WL.run hS rfl rfl rfl (ex_lss rfl rfl) ?_
 refine WL.nx ?_
 refine WC.cond rfl ?_ ?_
 intro hc_54
 replace hV := hV.1 (of_decide_eq_true hc_54)
 refine WC.skip ?_
 refine WQ.next ?_
 refine WC.seq ?_
 refine WC.block ?_
 refine WC.region ?_
 refine WL.mv rfl rfl ?_
 refine WL.mv rfl rfl ?_
 obtain ⟨hin_38, hV⟩ := hV
 refine WL.runx hS rfl rfl rfl (ex_index_own Try.underlying27 Try.sizeOf3 rfl rfl h_20 hin_38) ?_
 intro p_39 hp_40
 refine WL.store_own Try.sizeOf3 rfl rfl rfl (cInt_mk (I64.has (by unfold I64; omega))) hS h_20 hp_40 hin_38 ?_
 clear hS
 intro w fp_42 h_41 hS
 refine WL.nil ?_
 refine WQ.out nofun ?_
 refine WQ.next ?_
 refine WC.region ?_
 refine WL.mv rfl rfl ?_
 obtain ⟨hi_44, hV⟩ := hV
 refine WL.run hS rfl rfl rfl (ex_add rfl rfl hi_44) ?_
 refine WL.ma rfl rfl ?_
 refine WL.nil ?_
 exact WQ.there fun a ha => ⟨((l_17.set i_21.toNat (-77)), (i_21 + 1)), ⟨(l_17.set i_21.toNat (-77)), (i_21 + 1), v_18, fp_42, rfl, hV.1, h_41, hi_44, hS, ha.of_sub ⟨rfl, rfl, trivial⟩⟩, hV.2⟩
 intro hc_54
 replace hV := hV.2 (of_decide_eq_false hc_54)
 refine WC.exit ?_
 refine WQ.pass nofun ?_
 refine WQ.pass nofun ?_
 refine WQ.hit ?_
 refine WQ.next ?_
 refine WC.region ?_
 refine WL.mv rfl rfl ?_
 refine WL.buildn (c := (cInt .i64)) (xs := [(-78), (-79)]) (vs := [i6 (-78), i6 (-79)]) rfl Try.underlying27 Try.info3 rfl rfl ⟨rfl, rfl, trivial⟩ rfl ⟨_, _, rfl, (cInt_mk (I64.has (by unfold I64; omega))), ⟨_, _, rfl, (cInt_mk (I64.has (by unfold I64; omega))), rfl⟩⟩ hS rfl ?_
 clear hS
 intro v_46 w fp_47 h_48 hS
 obtain ⟨hr_49, hV⟩ := hV
 replace hS := hS.f2
 refine WL.append (c := (cInt .i64)) (xs := l_17) (ys := ([(-78), (-79)])) rfl Try.underlying27 Try.info3 rfl rfl rfl hS h_20 (h_48.src hS.f2) hr_49.1 hr_49.2 ?_
 clear hS
 intro v_50 w fp_51 h_52 hS
 refine WL.ma rfl rfl ?_
 refine WL.nil ?_
 replace hS := hS.drop
 replace hS := hS.drop
 exact leave0 (.inr rfl) rfl ⟨hV, rfl, hS⟩

theorem S_rConst {w0 : World} {H : View} {L : Seg} {w : World} {n_1 : Int} {v_3 : Bool} {Q : (List Bool) → Prop} (hr_2 : I64 n_1) (hS : St w0 H (L) w) (hV : V_rConst n_1 v_3 Q) :
 Calls Try.prog 16 #[i6 n_1, .bool v_3] w fun e w' => ∃ (r1 : List Bool) (v1 : Value) (fp1 : Seg), Q r1 ∧ e = .returned (v1) ∧ OwnSl H cBool 4 v1 r1 fp1 ∧ St w0 H (fp1 ++ L) w' := by
 unfold V_rConst at hV
 refine enter Try.func16 rfl Try.ntmps16 rfl (lk_args_cons (d := 0) (v := i6 n_1) rfl (lk_args_cons (d := 1) (v := .bool v_3) rfl (lk_args_nil _))) ?_
 refine WC.sr ?_
 refine WL.ma rfl rfl ?_
 refine WL.nx ?_
 refine WC.sr ?_
 refine WL.mv rfl rfl ?_
 obtain ⟨hi_5, hV⟩ := hV
 refine WL.run hS rfl rfl rfl (ex_shl rfl rfl hi_5) ?_
 obtain ⟨hm_10, hV⟩ := hV
 refine WL.make (c := cBool) (z0 := false) rfl Try.underlying28 Try.info4 rfl rfl rfl rfl hm_10.1 hm_10.2.1 hm_10.2.2 hS ?_
 clear hS
 intro v_7 w fp_8 h_9 hS
 refine WL.ma rfl rfl ?_
 refine WL.nx ?_
 refine WC.seq ?_
 refine WC.sr ?_
 refine WL.ma rfl rfl ?_
 refine WL.nx ?_
 refine WC.block ?_
 obtain ⟨I_38, mu_39, hI_51, hV⟩ := hV
 refine WC.loop (σ := (List Bool) × Int) (fun s a w => ∃ (l_22 : List Bool) (i_26 : Int) (v_23 : Value) (fp_24 : Seg), s = (l_22, i_26) ∧ I_38 (l_22, i_26) ∧ OwnSl H cBool 4 v_23 l_22 fp_24 ∧ I64 i_26 ∧ St w0 H (fp_24 ++ L) w ∧ Fr 21 [(1, .bool v_3), (5, v_23), (6, i6 i_26)] a) mu_39 ((List.replicate ((1 : Int) * 2 ^ n_1.toNat).toNat false), 0) ?_ ?_
 exact fun a ha => ⟨(List.replicate ((1 : Int) * 2 ^ n_1.toNat).toNat false), 0, v_7, fp_8, rfl, hI_51, h_9, (by unfold I64; omega), hS, ha.of_sub ⟨rfl, rfl, rfl, trivial⟩⟩
 clear hS hI_51
 rintro _ a w ⟨l_22, i_26, v_23, fp_24, rfl, hI, h_25, hr_27, hS, ha⟩
 refine in_frame ha ?_
 clear ha
 replace hV := hV _ hI
 clear hI
 refine WC.seq ?_
 refine WC.sr ?_
 refine WL.mv rfl rfl ?_
 refine WL.mv rfl rfl ?_
 have hl_41 : Len l_22 := h_25.bound
 replace hV := hV hl_41
 refine WL.run hS rfl rfl rfl (ex_len_own Try.underlying28 rfl h_25) ?_
 refine WL.run hS rfl rfl rfl (ex_lss rfl rfl) ?_
 refine WL.nx ?_
 refine WC.cond rfl ?_ ?_
 intro hc_50
 replace hV := hV.1 (of_decide_eq_true hc_50)
 refine WC.skip ?_
 refine WQ.next ?_
 refine WC.seq ?_
 refine WC.block ?_
 refine WC.region ?_
 refine WL.mv rfl rfl ?_
 refine WL.mv rfl rfl ?_
 refine WL.mv rfl rfl ?_
 obtain ⟨hin_43, hV⟩ := hV
 refine WL.runx hS rfl rfl rfl (ex_index_own Try.underlying28 Try.sizeOf4 rfl rfl h_25 hin_43) ?_
 intro p_44 hp_45
 refine WL.store_own Try.sizeOf4 rfl rfl rfl cBool_mk hS h_25 hp_45 hin_43 ?_
 clear hS
 intro w fp_47 h_46 hS
 refine WL.nil ?_
 refine WQ.out nofun ?_
 refine WQ.next ?_
 refine WC.region ?_
 refine WL.mv rfl rfl ?_
 obtain ⟨hi_49, hV⟩ := hV
 refine WL.run hS rfl rfl rfl (ex_add rfl rfl hi_49) ?_
 refine WL.ma rfl rfl ?_
 refine WL.nil ?_
 exact WQ.there fun a ha => ⟨((l_22.set i_26.toNat v_3), (i_26 + 1)), ⟨(l_22.set i_26.toNat v_3), (i_26 + 1), v_23, fp_47, rfl, hV.1, h_46, hi_49, hS, ha.of_sub ⟨rfl, rfl, rfl, trivial⟩⟩, hV.2⟩
 intro hc_50
 replace hV := hV.2 (of_decide_eq_false hc_50)
 refine WC.exit ?_
 refine WQ.pass nofun ?_
 refine WQ.pass nofun ?_
 refine WQ.hit ?_
 refine WQ.next ?_
 refine WC.sr ?_
 refine WL.mv rfl rfl ?_
 refine WL.ma rfl rfl ?_
 refine WL.nx ?_
 refine WC.ret ?_
 exact leave1 rfl rfl ⟨l_22, v_23, fp_24, hV, rfl, h_25, hS⟩

theorem S_rVar {w0 : World} {H : View} {L : Seg} {w : World} {n_1 : Int} {i_3 : Int} {Q : (List Bool) → Prop} (hr_2 : I64 n_1) (hr_4 : I64 i_3) (hS : St w0 H (L) w) (hV : V_rVar n_1 i_3 Q) :
 Calls Try.prog 28 #[i6 n_1, i6 i_3] w fun e w' => ∃ (r1 : List Bool) (v1 : Value) (fp1 : Seg), Q r1 ∧ e = .returned (v1) ∧ OwnSl H cBool 4 v1 r1 fp1 ∧ St w0 H (fp1 ++ L) w' := by
 unfold V_rVar at hV
 refine enter Try.func28 rfl Try.ntmps28 rfl (lk_args_cons (d := 0) (v := i6 n_1) rfl (lk_args_cons (d := 1) (v := i6 i_3) rfl (lk_args_nil _))) ?_
 refine WC.sr ?_
 refine WL.ma rfl rfl ?_
 refine WL.nx ?_
 refine WC.sr ?_
 refine WL.mv rfl rfl ?_
 obtain ⟨hi_6, hV⟩ := hV
 refine WL.run hS rfl rfl rfl (ex_shl rfl rfl hi_6) ?_
 obtain ⟨hm_11, hV⟩ := hV
 refine WL.make (c := cBool) (z0 := false) rfl Try.underlying28 Try.info4 rfl rfl rfl rfl hm_11.1 hm_11.2.1 hm_11.2.2 hS ?_
 clear hS
 intro v_8 w fp_9 h_10 hS
 refine WL.ma rfl rfl ?_
 refine WL.nx ?_
 refine WC.seq ?_
 refine WC.sr ?_
 refine WL.ma rfl rfl ?_
 refine WL.nx ?_
 refine WC.block ?_
 obtain ⟨I_131, mu_132, hI_190, hV⟩ := hV
 refine WC.loop (σ := (List Bool) × Int) (fun s a w => ∃ (l_69 : List Bool) (k_73 : Int) (v_70 : Value) (fp_71 : Seg), s = (l_69, k_73) ∧ I_131 (l_69, k_73) ∧ OwnSl H cBool 4 v_70 l_69 fp_71 ∧ I64 k_73 ∧ St w0 H (fp_71 ++ L) w ∧ Fr 34 [(0, i6 n_1), (1, i6 i_3), (5, v_70), (6, i6 k_73)] a) mu_132 ((List.replicate ((1 : Int) * 2 ^ n_1.toNat).toNat false), 0) ?_ ?_
 exact fun a ha => ⟨(List.replicate ((1 : Int) * 2 ^ n_1.toNat).toNat false), 0, v_8, fp_9, rfl, hI_190, h_10, (by unfold I64; omega), hS, ha.of_sub ⟨rfl, rfl, rfl, rfl, trivial⟩⟩
 clear hS hI_190
 rintro _ a w ⟨l_69, k_73, v_70, fp_71, rfl, hI, h_72, hr_74, hS, ha⟩
 refine in_frame ha ?_
 clear ha
 replace hV := hV _ hI
 clear hI
 refine WC.seq ?_
 refine WC.sr ?_
 refine WL.mv rfl rfl ?_
 refine WL.mv rfl rfl ?_
 have hl_134 : Len l_69 := h_72.bound
 replace hV := hV hl_134
 refine WL.run hS rfl rfl rfl (ex_len_own Try.underlying28 rfl h_72) ?_
 refine WL.run hS rfl rfl rfl (ex_lss rfl rfl) ?_
 refine WL.nx ?_
 refine WC.cond rfl ?_ ?_
 intro hc_189
 replace hV := hV.1 (of_decide_eq_true hc_189)
 refine WC.skip ?_
 refine WQ.next ?_
 obtain ⟨J_163, hJ_164, hV⟩ := hV
 refine WC.meet (fun a w => ∃ (l_159 : List Bool) (v_160 : Value) (fp_161 : Seg), J_163 l_159 ∧ OwnSl H cBool 4 v_160 l_159 fp_161 ∧ St w0 H (fp_161 ++ L) w ∧ Fr 34 [(0, i6 n_1), (1, i6 i_3), (5, v_160), (6, i6 k_73)] a) ?_ ?_
 rintro a w ⟨l_159, v_160, fp_161, hI, h_162, hS, ha⟩
 refine in_frame ha ?_
 clear ha hV
 have hV := hJ_164 _ hI
 clear hI hJ_164
 refine WC.region ?_
 refine WL.mv rfl rfl ?_
 obtain ⟨hi_188, hV⟩ := hV
 refine WL.run hS rfl rfl rfl (ex_add rfl rfl hi_188) ?_
 refine WL.ma rfl rfl ?_
 refine WL.nil ?_
 exact WQ.there fun a ha => ⟨(l_159, (k_73 + 1)), ⟨l_159, (k_73 + 1), v_160, fp_161, rfl, hV.1, h_162, hi_188, hS, ha.of_sub ⟨rfl, rfl, rfl, rfl, trivial⟩⟩, hV.2⟩
 clear hJ_164
 refine WC.block ?_
 refine WC.region ?_
 refine WL.mv rfl rfl ?_
 refine WL.mv rfl rfl ?_
 refine WL.mv rfl rfl ?_
 refine WL.run hS rfl rfl rfl (ex_geq rfl rfl) ?_
 refine WL.mv rfl rfl ?_
 rcases Bool.eq_false_or_eq_true (decide (0 ≤ i_3)) with hg_166 | hg_166
 replace hV := hV.1 (of_decide_eq_true hg_166)
 refine WL.unguard rfl rfl hg_166 ?_
 refine WL.mv rfl rfl ?_
 refine WL.unguard rfl rfl hg_166 ?_
 refine WL.mv rfl rfl ?_
 refine WL.unguard rfl rfl hg_166 ?_
 refine WL.run hS rfl rfl rfl (ex_lss rfl rfl) ?_
 refine WL.run hS rfl rfl rfl (ex_pick_t rfl hg_166 rfl) ?_
 refine WL.mv rfl rfl ?_
 rcases Bool.eq_false_or_eq_true (decide (i_3 < n_1)) with hg_168 | hg_168
 replace hV := hV.1 (of_decide_eq_true hg_168)
 refine WL.unguard rfl rfl hg_168 ?_
 refine WL.mv rfl rfl ?_
 refine WL.unguard rfl rfl hg_168 ?_
 refine WL.mv rfl rfl ?_
 refine WL.unguard rfl rfl hg_168 ?_
 obtain ⟨hi_169, hV⟩ := hV
 refine WL.run hS rfl rfl rfl (ex_shr rfl rfl hi_169) ?_
 refine WL.unguard rfl rfl hg_168 ?_
 obtain ⟨hi_170, hV⟩ := hV
 refine WL.run hS rfl rfl rfl (ex_and rfl rfl (I64.fdiv2 hr_74) hi_170) ?_
 refine WL.unguard rfl rfl hg_168 ?_
 refine WL.run hS rfl rfl rfl (ex_eql rfl rfl) ?_
 refine WL.run hS rfl rfl rfl (ex_pick_t rfl hg_168 rfl) ?_
 obtain ⟨hin_172, hV⟩ := hV
 refine WL.runx hS rfl rfl rfl (ex_index_own Try.underlying28 Try.sizeOf4 rfl rfl h_72 hin_172) ?_
 intro p_173 hp_174
 refine WL.store_own Try.sizeOf4 rfl rfl rfl cBool_mk hS h_72 hp_174 hin_172 ?_
 clear hS
 intro w fp_176 h_175 hS
 refine WL.nil ?_
 refine WQ.out nofun ?_
 exact WQ.there fun a ha => ⟨(l_69.set k_73.toNat (decide ((nat2 (· &&& ·) (k_73.fdiv (2 ^ i_3.toNat)) 1) = 1))), v_70, fp_176, hV, h_175, hS, ha.of_sub ⟨rfl, rfl, rfl, rfl, trivial⟩⟩
 replace hV := hV.2 (of_decide_eq_false hg_168)
 refine WL.skip_g rfl rfl rfl hg_168 rfl rfl ?_
 refine WL.skip_g rfl rfl rfl hg_168 rfl rfl ?_
 refine WL.skip_g rfl rfl rfl hg_168 rfl rfl ?_
 refine WL.skip_g rfl rfl rfl hg_168 rfl rfl ?_
 refine WL.skip_g rfl rfl rfl hg_168 rfl rfl ?_
 refine WL.run hS rfl rfl rfl (ex_pick_f rfl hg_168 rfl) ?_
 obtain ⟨hin_177, hV⟩ := hV
 refine WL.runx hS rfl rfl rfl (ex_index_own Try.underlying28 Try.sizeOf4 rfl rfl h_72 hin_177) ?_
 intro p_178 hp_179
 refine WL.store_own Try.sizeOf4 rfl rfl rfl cBool_mk hS h_72 hp_179 hin_177 ?_
 clear hS
 intro w fp_181 h_180 hS
 refine WL.nil ?_
 refine WQ.out nofun ?_
 exact WQ.there fun a ha => ⟨(l_69.set k_73.toNat false), v_70, fp_181, hV, h_180, hS, ha.of_sub ⟨rfl, rfl, rfl, rfl, trivial⟩⟩
 replace hV := hV.2 (of_decide_eq_false hg_166)
 refine WL.skip_g rfl rfl rfl hg_166 rfl rfl ?_
 refine WL.skip_g rfl rfl rfl hg_166 rfl rfl ?_
 refine WL.skip_g rfl rfl rfl hg_166 rfl rfl ?_
 refine WL.run hS rfl rfl rfl (ex_pick_f rfl hg_166 rfl) ?_
 refine WL.mv rfl rfl ?_
 refine WL.skip_g rfl rfl rfl rfl rfl rfl ?_
 refine WL.skip_g rfl rfl rfl rfl rfl rfl ?_
 refine WL.skip_g rfl rfl rfl rfl rfl rfl ?_
 refine WL.skip_g rfl rfl rfl rfl rfl rfl ?_
 refine WL.skip_g rfl rfl rfl rfl rfl rfl ?_
 refine WL.run hS rfl rfl rfl (ex_pick_f rfl rfl rfl) ?_
 obtain ⟨hin_182, hV⟩ := hV
 refine WL.runx hS rfl rfl rfl (ex_index_own Try.underlying28 Try.sizeOf4 rfl rfl h_72 hin_182) ?_
 intro p_183 hp_184
 refine WL.store_own Try.sizeOf4 rfl rfl rfl cBool_mk hS h_72 hp_184 hin_182 ?_
 clear hS
 intro w fp_186 h_185 hS
 refine WL.nil ?_
 refine WQ.out nofun ?_
 exact WQ.there fun a ha => ⟨(l_69.set k_73.toNat false), v_70, fp_186, hV, h_185, hS, ha.of_sub ⟨rfl, rfl, rfl, rfl, trivial⟩⟩
 intro hc_189
 replace hV := hV.2 (of_decide_eq_false hc_189)
 refine WC.exit ?_
 refine WQ.pass nofun ?_
 refine WQ.pass nofun ?_
 refine WQ.hit ?_
 refine WQ.next ?_
 refine WC.sr ?_
 refine WL.mv rfl rfl ?_
 refine WL.ma rfl rfl ?_
 refine WL.nx ?_
 refine WC.ret ?_
 exact leave1 rfl rfl ⟨l_69, v_70, fp_71, hV, rfl, h_72, hS⟩

theorem S_rIte {w0 : World} {H : View} {L : Seg} {w : World} {v_2 : Value} {f_1 : List Bool} {v_5 : Value} {g_4 : List Bool} {v_8 : Value} {h_7 : List Bool} {Q : (List Bool) → Prop} (h_3 : IsSl H cBool v_2 f_1) (h_6 : IsSl H cBool v_5 g_4) (h_9 : IsSl H cBool v_8 h_7) (hS : St w0 H (L) w) (hV : V_rIte f_1 g_4 h_7 Q) :
 Calls Try.prog 30 #[v_2, v_5, v_8] w fun e w' => ∃ (r1 : List Bool) (v1 : Value) (fp1 : Seg), Q r1 ∧ e = .returned (v1) ∧ OwnSl H cBool 4 v1 r1 fp1 ∧ St w0 H (fp1 ++ L) w' := by
 unfold V_rIte at hV
 refine enter Try.func30 rfl Try.ntmps30 rfl (lk_args_cons (d := 0) (v := v_2) rfl (lk_args_cons (d := 1) (v := v_5) rfl (lk_args_cons (d := 2) (v := v_8) rfl (lk_args_nil _)))) ?_
 refine WC.sr ?_
 refine WL.ma rfl rfl ?_
 refine WL.nx ?_
 refine WC.sr ?_
 refine WL.mv rfl rfl ?_
 have hl_11 : Len f_1 := h_3.bound
 replace hV := hV hl_11
 refine WL.run hS rfl rfl rfl (ex_len_sl Try.underlying28 rfl h_3) ?_
 obtain ⟨hm_16, hV⟩ := hV
 refine WL.make (c := cBool) (z0 := false) rfl Try.underlying28 Try.info4 rfl rfl rfl rfl hm_16.1 hm_16.2.1 hm_16.2.2 hS ?_
 clear hS
 intro v_13 w fp_14 h_15 hS
 refine WL.ma rfl rfl ?_
 refine WL.nx ?_
 refine WC.seq ?_
 refine WC.sr ?_
 refine WL.ma rfl rfl ?_
 refine WL.nx ?_
 refine WC.block ?_
 obtain ⟨I_284, mu_285, hI_417, hV⟩ := hV
 refine WC.loop (σ := (List Bool) × Int) (fun s a w => ∃ (l_148 : List Bool) (k_152 : Int) (v_149 : Value) (fp_150 : Seg), s = (l_148, k_152) ∧ I_284 (l_148, k_152) ∧ OwnSl H cBool 4 v_149 l_148 fp_150 ∧ I64 k_152 ∧ St w0 H (fp_150 ++ L) w ∧ Fr 45 [(0, v_2), (1, v_5), (2, v_8), (7, v_149), (8, i6 k_152)] a) mu_285 ((List.replicate (f_1.length : Int).toNat false), 0) ?_ ?_
 exact fun a ha => ⟨(List.replicate (f_1.length : Int).toNat false), 0, v_13, fp_14, rfl, hI_417, h_15, (by unfold I64; omega), hS, ha.of_sub ⟨rfl, rfl, rfl, rfl, rfl, trivial⟩⟩
 clear hS hI_417
 rintro _ a w ⟨l_148, k_152, v_149, fp_150, rfl, hI, h_151, hr_153, hS, ha⟩
 refine in_frame ha ?_
 clear ha
 replace hV := hV _ hI
 clear hI
 refine WC.seq ?_
 refine WC.sr ?_
 refine WL.mv rfl rfl ?_
 refine WL.mv rfl rfl ?_
 have hl_287 : Len l_148 := h_151.bound
 replace hV := hV hl_287
 refine WL.run hS rfl rfl rfl (ex_len_own Try.underlying28 rfl h_151) ?_
 refine WL.run hS rfl rfl rfl (ex_lss rfl rfl) ?_
 refine WL.nx ?_
 refine WC.cond rfl ?_ ?_
 intro hc_416
 replace hV := hV.1 (of_decide_eq_true hc_416)
 refine WC.skip ?_
 refine WQ.next ?_
 obtain ⟨J_353, hJ_354, hV⟩ := hV
 refine WC.meet (fun a w => ∃ (l_349 : List Bool) (v_350 : Value) (fp_351 : Seg), J_353 l_349 ∧ OwnSl H cBool 4 v_350 l_349 fp_351 ∧ St w0 H (fp_351 ++ L) w ∧ Fr 45 [(0, v_2), (1, v_5), (2, v_8), (7, v_350), (8, i6 k_152)] a) ?_ ?_
 rintro a w ⟨l_349, v_350, fp_351, hI, h_352, hS, ha⟩
 refine in_frame ha ?_
 clear ha hV
 have hV := hJ_354 _ hI
 clear hI hJ_354
 refine WC.region ?_
 refine WL.mv rfl rfl ?_
 obtain ⟨hi_415, hV⟩ := hV
 refine WL.run hS rfl rfl rfl (ex_add rfl rfl hi_415) ?_
 refine WL.ma rfl rfl ?_
 refine WL.nil ?_
 exact WQ.there fun a ha => ⟨(l_349, (k_152 + 1)), ⟨l_349, (k_152 + 1), v_350, fp_351, rfl, hV.1, h_352, hi_415, hS, ha.of_sub ⟨rfl, rfl, rfl, rfl, rfl, trivial⟩⟩, hV.2⟩
 clear hJ_354
 refine WC.block ?_
 refine WC.region ?_
 refine WL.mv rfl rfl ?_
 refine WL.mv rfl rfl ?_
 refine WL.mv rfl rfl ?_
 refine WL.mv rfl rfl ?_
 obtain ⟨hin_355, hV⟩ := hV
 refine WL.runx hS rfl rfl rfl (ex_index Try.underlying28 Try.sizeOf4 rfl rfl h_3 hin_355) ?_
 intro p_356 hp_357
 refine WL.runx hS rfl rfl rfl (ex_load Try.isAgg4 rfl rfl hp_357) ?_
 intro u_358 hu_359
 obtain rfl := cBool_rep hu_359
 refine WL.mv rfl rfl ?_
 rcases Bool.eq_false_or_eq_true (ix f_1 k_152) with hg_360 | hg_360
 replace hV := hV.1 hg_360
 refine WL.unguard rfl rfl hg_360 ?_
 refine WL.mv rfl rfl ?_
 refine WL.unguard rfl rfl hg_360 ?_
 refine WL.mv rfl rfl ?_
 refine WL.unguard rfl rfl hg_360 ?_
 obtain ⟨hin_361, hV⟩ := hV
 refine WL.runx hS rfl rfl rfl (ex_index Try.underlying28 Try.sizeOf4 rfl rfl h_6 hin_361) ?_
 intro p_362 hp_363
 refine WL.unguard rfl rfl hg_360 ?_
 refine WL.runx hS rfl rfl rfl (ex_load Try.isAgg4 rfl rfl hp_363) ?_
 intro u_364 hu_365
 obtain rfl := cBool_rep hu_365
 refine WL.run hS rfl rfl rfl (ex_pick_t rfl hg_360 rfl) ?_
 refine WL.mv rfl rfl ?_
 rcases Bool.eq_false_or_eq_true (ix g_4 k_152) with hg_366 | hg_366
 replace hV := hV.1 hg_366
 refine WL.skip_g rfl rfl rfl hg_366 rfl rfl ?_
 refine WL.skip_g rfl rfl rfl hg_366 rfl rfl ?_
 refine WL.skip_g rfl rfl rfl hg_366 rfl rfl ?_
 refine WL.skip_g rfl rfl rfl hg_366 rfl rfl ?_
 refine WL.skip_g rfl rfl rfl hg_366 rfl rfl ?_
 refine WL.skip_g rfl rfl rfl hg_366 rfl rfl ?_
 refine WL.skip_u rfl rfl rfl rfl rfl ?_
 refine WL.skip_u rfl rfl rfl rfl rfl ?_
 refine WL.skip_u rfl rfl rfl rfl rfl ?_
 refine WL.skip_u rfl rfl rfl rfl rfl ?_
 refine WL.skip_g rfl rfl rfl hg_366 rfl rfl ?_
 refine WL.run hS rfl rfl rfl (ex_pick_t rfl hg_366 rfl) ?_
 obtain ⟨hin_367, hV⟩ := hV
 refine WL.runx hS rfl rfl rfl (ex_index_own Try.underlying28 Try.sizeOf4 rfl rfl h_151 hin_367) ?_
 intro p_368 hp_369
 refine WL.store_own Try.sizeOf4 rfl rfl rfl cBool_mk hS h_151 hp_369 hin_367 ?_
 clear hS
 intro w fp_371 h_370 hS
 refine WL.nil ?_
 refine WQ.out nofun ?_
 exact WQ.there fun a ha => ⟨(l_148.set k_152.toNat true), v_149, fp_371, hV, h_370, hS, ha.of_sub ⟨rfl, rfl, rfl, rfl, rfl, trivial⟩⟩
 replace hV := hV.2 hg_366
 refine WL.unguard rfl rfl hg_366 ?_
 refine WL.mv rfl rfl ?_
 refine WL.unguard rfl rfl hg_366 ?_
 refine WL.mv rfl rfl ?_
 refine WL.unguard rfl rfl hg_366 ?_
 obtain ⟨hin_372, hV⟩ := hV
 refine WL.runx hS rfl rfl rfl (ex_index Try.underlying28 Try.sizeOf4 rfl rfl h_3 hin_372) ?_
 intro p_373 hp_374
 refine WL.unguard rfl rfl hg_366 ?_
 refine WL.runx hS rfl rfl rfl (ex_load Try.isAgg4 rfl rfl hp_374) ?_
 intro u_375 hu_376
 obtain rfl := cBool_rep hu_376
 refine WL.unguard rfl rfl hg_366 ?_
 refine WL.run hS rfl rfl rfl (ex_not rfl) ?_
 refine WL.unguard rfl rfl hg_366 ?_
 refine WL.mv rfl rfl ?_
 rcases Bool.eq_false_or_eq_true (!(ix f_1 k_152)) with hg_377 | hg_377
 replace hV := hV.1 hg_377
 refine WL.unguard rfl rfl hg_377 ?_
 refine WL.mv rfl rfl ?_
 refine WL.unguard rfl rfl hg_377 ?_
 refine WL.mv rfl rfl ?_
 refine WL.unguard rfl rfl hg_377 ?_
 obtain ⟨hin_378, hV⟩ := hV
 refine WL.runx hS rfl rfl rfl (ex_index Try.underlying28 Try.sizeOf4 rfl rfl h_9 hin_378) ?_
 intro p_379 hp_380
 refine WL.unguard rfl rfl hg_377 ?_
 refine WL.runx hS rfl rfl rfl (ex_load Try.isAgg4 rfl rfl hp_380) ?_
 intro u_381 hu_382
 obtain rfl := cBool_rep hu_382
 refine WL.unguard rfl rfl hg_366 ?_
 refine WL.run hS rfl rfl rfl (ex_pick_t rfl hg_377 rfl) ?_
 refine WL.run hS rfl rfl rfl (ex_pick_f rfl hg_366 rfl) ?_
 obtain ⟨hin_383, hV⟩ := hV
 refine WL.runx hS rfl rfl rfl (ex_index_own Try.underlying28 Try.sizeOf4 rfl rfl h_151 hin_383) ?_
 intro p_384 hp_385
 refine WL.store_own Try.sizeOf4 rfl rfl rfl cBool_mk hS h_151 hp_385 hin_383 ?_
 clear hS
 intro w fp_387 h_386 hS
 refine WL.nil ?_
 refine WQ.out nofun ?_
 exact WQ.there fun a ha => ⟨(l_148.set k_152.toNat (ix h_7 k_152)), v_149, fp_387, hV, h_386, hS, ha.of_sub ⟨rfl, rfl, rfl, rfl, rfl, trivial⟩⟩
 replace hV := hV.2 hg_377
 refine WL.skip_g rfl rfl rfl hg_377 rfl rfl ?_
 refine WL.skip_g rfl rfl rfl hg_377 rfl rfl ?_
 refine WL.skip_g rfl rfl rfl hg_377 rfl rfl ?_
 refine WL.skip_g rfl rfl rfl hg_377 rfl rfl ?_
 refine WL.unguard rfl rfl hg_366 ?_
 refine WL.run hS rfl rfl rfl (ex_pick_f rfl hg_377 rfl) ?_
 refine WL.run hS rfl rfl rfl (ex_pick_f rfl hg_366 rfl) ?_
 obtain ⟨hin_388, hV⟩ := hV
 refine WL.runx hS rfl rfl rfl (ex_index_own Try.underlying28 Try.sizeOf4 rfl rfl h_151 hin_388) ?_
 intro p_389 hp_390
 refine WL.store_own Try.sizeOf4 rfl rfl rfl cBool_mk hS h_151 hp_390 hin_388 ?_
 clear hS
 intro w fp_392 h_391 hS
 refine WL.nil ?_
 refine WQ.out nofun ?_
 exact WQ.there fun a ha => ⟨(l_148.set k_152.toNat false), v_149, fp_392, hV, h_391, hS, ha.of_sub ⟨rfl, rfl, rfl, rfl, rfl, trivial⟩⟩
 replace hV := hV.2 hg_360
 refine WL.skip_g rfl rfl rfl hg_360 rfl rfl ?_
 refine WL.skip_g rfl rfl rfl hg_360 rfl rfl ?_
 refine WL.skip_g rfl rfl rfl hg_360 rfl rfl ?_
 refine WL.skip_g rfl rfl rfl hg_360 rfl rfl ?_
 refine WL.run hS rfl rfl rfl (ex_pick_f rfl hg_360 rfl) ?_
 refine WL.mv rfl rfl ?_
 refine WL.unguard rfl rfl rfl ?_
 refine WL.mv rfl rfl ?_
 refine WL.unguard rfl rfl rfl ?_
 refine WL.mv rfl rfl ?_
 refine WL.unguard rfl rfl rfl ?_
 obtain ⟨hin_393, hV⟩ := hV
 refine WL.runx hS rfl rfl rfl (ex_index Try.underlying28 Try.sizeOf4 rfl rfl h_3 hin_393) ?_
 intro p_394 hp_395
 refine WL.unguard rfl rfl rfl ?_
 refine WL.runx hS rfl rfl rfl (ex_load Try.isAgg4 rfl rfl hp_395) ?_
 intro u_396 hu_397
 obtain rfl := cBool_rep hu_397
 refine WL.unguard rfl rfl rfl ?_
 refine WL.run hS rfl rfl rfl (ex_not rfl) ?_
 refine WL.unguard rfl rfl rfl ?_
 refine WL.mv rfl rfl ?_
 rcases Bool.eq_false_or_eq_true (!(ix f_1 k_152)) with hg_398 | hg_398
 replace hV := hV.1 hg_398
 refine WL.unguard rfl rfl hg_398 ?_
 refine WL.mv rfl rfl ?_
 refine WL.unguard rfl rfl hg_398 ?_
 refine WL.mv rfl rfl ?_
 refine WL.unguard rfl rfl hg_398 ?_
 obtain ⟨hin_399, hV⟩ := hV
 refine WL.runx hS rfl rfl rfl (ex_index Try.underlying28 Try.sizeOf4 rfl rfl h_9 hin_399) ?_
 intro p_400 hp_401
 refine WL.unguard rfl rfl hg_398 ?_
 refine WL.runx hS rfl rfl rfl (ex_load Try.isAgg4 rfl rfl hp_401) ?_
 intro u_402 hu_403
 obtain rfl := cBool_rep hu_403
 refine WL.unguard rfl rfl rfl ?_
 refine WL.run hS rfl rfl rfl (ex_pick_t rfl hg_398 rfl) ?_
 refine WL.run hS rfl rfl rfl (ex_pick_f rfl rfl rfl) ?_
 obtain ⟨hin_404, hV⟩ := hV
 refine WL.runx hS rfl rfl rfl (ex_index_own Try.underlying28 Try.sizeOf4 rfl rfl h_151 hin_404) ?_
 intro p_405 hp_406
 refine WL.store_own Try.sizeOf4 rfl rfl rfl cBool_mk hS h_151 hp_406 hin_404 ?_
 clear hS
 intro w fp_408 h_407 hS
 refine WL.nil ?_
 refine WQ.out nofun ?_
 exact WQ.there fun a ha => ⟨(l_148.set k_152.toNat (ix h_7 k_152)), v_149, fp_408, hV, h_407, hS, ha.of_sub ⟨rfl, rfl, rfl, rfl, rfl, trivial⟩⟩
 replace hV := hV.2 hg_398
 refine WL.skip_g rfl rfl rfl hg_398 rfl rfl ?_
 refine WL.skip_g rfl rfl rfl hg_398 rfl rfl ?_
 refine WL.skip_g rfl rfl rfl hg_398 rfl rfl ?_
 refine WL.skip_g rfl rfl rfl hg_398 rfl rfl ?_
 refine WL.unguard rfl rfl rfl ?_
 refine WL.run hS rfl rfl rfl (ex_pick_f rfl hg_398 rfl) ?_
 refine WL.run hS rfl rfl rfl (ex_pick_f rfl rfl rfl) ?_
 obtain ⟨hin_409, hV⟩ := hV
 refine WL.runx hS rfl rfl rfl (ex_index_own Try.underlying28 Try.sizeOf4 rfl rfl h_151 hin_409) ?_
 intro p_410 hp_411
 refine WL.store_own Try.sizeOf4 rfl rfl rfl cBool_mk hS h_151 hp_411 hin_409 ?_
 clear hS
 intro w fp_413 h_412 hS
 refine WL.nil ?_
 refine WQ.out nofun ?_
 exact WQ.there fun a ha => ⟨(l_148.set k_152.toNat false), v_149, fp_413, hV, h_412, hS, ha.of_sub ⟨rfl, rfl, rfl, rfl, rfl, trivial⟩⟩
 intro hc_416
 replace hV := hV.2 (of_decide_eq_false hc_416)
 refine WC.exit ?_
 refine WQ.pass nofun ?_
 refine WQ.pass nofun ?_
 refine WQ.hit ?_
 refine WQ.next ?_
 refine WC.sr ?_
 refine WL.mv rfl rfl ?_
 refine WL.ma rfl rfl ?_
 refine WL.nx ?_
 refine WC.sub (m := [(6, v_149)]) ⟨rfl, trivial⟩ ?_
 refine WC.ret ?_
 exact leave1 rfl rfl ⟨l_148, v_149, fp_150, hV, rfl, h_151, hS⟩

theorem S_rWith {w0 : World} {H : View} {L : Seg} {w : World} {v_2 : Value} {f_1 : List Bool} {i_4 : Int} {v_6 : Bool} {Q : (List Bool) → Prop} (h_3 : IsSl H cBool v_2 f_1) (hr_5 : I64 i_4) (hS : St w0 H (L) w) (hV : V_rWith f_1 i_4 v_6 Q) :
 Calls Try.prog 70 #[v_2, i6 i_4, .bool v_6] w fun e w' => ∃ (r1 : List Bool) (v1 : Value) (fp1 : Seg), Q r1 ∧ e = .returned (v1) ∧ OwnSl H cBool 4 v1 r1 fp1 ∧ St w0 H (fp1 ++ L) w' := by
 unfold V_rWith at hV
 refine enter Try.func70 rfl Try.ntmps70 rfl (lk_args_cons (d := 0) (v := v_2) rfl (lk_args_cons (d := 1) (v := i6 i_4) rfl (lk_args_cons (d := 2) (v := .bool v_6) rfl (lk_args_nil _)))) ?_
 refine WC.sr ?_
 refine WL.ma rfl rfl ?_
 refine WL.nx ?_
 refine WC.sr ?_
 refine WL.mv rfl rfl ?_
 have hl_8 : Len f_1 := h_3.bound
 replace hV := hV hl_8
 refine WL.run hS rfl rfl rfl (ex_len_sl Try.underlying28 rfl h_3) ?_
 obtain ⟨hm_13, hV⟩ := hV
 refine WL.make (c := cBool) (z0 := false) rfl Try.underlying28 Try.info4 rfl rfl rfl rfl hm_13.1 hm_13.2.1 hm_13.2.2 hS ?_
 clear hS
 intro v_10 w fp_11 h_12 hS
 refine WL.ma rfl rfl ?_
 refine WL.nx ?_
 refine WC.seq ?_
 refine WC.sr ?_
 refine WL.ma rfl rfl ?_
 refine WL.nx ?_
 refine WC.block ?_
 obtain ⟨I_79, mu_80, hI_111, hV⟩ := hV
 refine WC.loop (σ := (List Bool) × Int) (fun s a w => ∃ (l_44 : List Bool) (k_48 : Int) (v_45 : Value) (fp_46 : Seg), s = (l_44, k_48) ∧ I_79 (l_44, k_48) ∧ OwnSl H cBool 4 v_45 l_44 fp_46 ∧ I64 k_48 ∧ St w0 H (fp_46 ++ L) w ∧ Fr 37 [(0, v_2), (1, i6 i_4), (2, .bool v_6), (7, v_45), (8, i6 k_48)] a) mu_80 ((List.replicate (f_1.length : Int).toNat false), 0) ?_ ?_
 exact fun a ha => ⟨(List.replicate (f_1.length : Int).toNat false), 0, v_10, fp_11, rfl, hI_111, h_12, (by unfold I64; omega), hS, ha.of_sub ⟨rfl, rfl, rfl, rfl, rfl, trivial⟩⟩
 clear hS hI_111
 rintro _ a w ⟨l_44, k_48, v_45, fp_46, rfl, hI, h_47, hr_49, hS, ha⟩
 refine in_frame ha ?_
 clear ha
 replace hV := hV _ hI
 clear hI
 refine WC.seq ?_
 refine WC.sr ?_
 refine WL.mv rfl rfl ?_
 refine WL.mv rfl rfl ?_
 have hl_82 : Len l_44 := h_47.bound
 replace hV := hV hl_82
 refine WL.run hS rfl rfl rfl (ex_len_own Try.underlying28 rfl h_47) ?_
 refine WL.run hS rfl rfl rfl (ex_lss rfl rfl) ?_
 refine WL.nx ?_
 refine WC.cond rfl ?_ ?_
 intro hc_110
 replace hV := hV.1 (of_decide_eq_true hc_110)
 refine WC.skip ?_
 refine WQ.next ?_
 refine WC.seq ?_
 refine WC.block ?_
 refine WC.sr ?_
 refine WL.mv rfl rfl ?_
 refine WL.mv rfl rfl ?_
 obtain ⟨hi_84, hV⟩ := hV
 refine WL.run hS rfl rfl rfl (ex_shl rfl rfl hi_84) ?_
 obtain ⟨hi_85, hV⟩ := hV
 refine WL.run hS rfl rfl rfl (ex_or rfl rfl hr_49 hi_84.2.2 hi_85) ?_
 refine WL.ma rfl rfl ?_
 refine WL.nx ?_
 obtain ⟨J_92, hJ_93, hV⟩ := hV
 refine WC.meet (fun a w => ∃ (xat_90 : Int), J_92 xat_90 ∧ I64 xat_90 ∧ St w0 H (fp_46 ++ L) w ∧ Fr 37 [(0, v_2), (1, i6 i_4), (2, .bool v_6), (7, v_45), (8, i6 k_48), (9, i6 xat_90)] a) ?_ ?_
 rintro a w ⟨xat_90, hI, hr_91, hS, ha⟩
 refine in_frame ha ?_
 clear ha hV
 have hV := hJ_93 _ hI
 clear hI hJ_93
 refine WC.region ?_
 refine WL.mv rfl rfl ?_
 refine WL.mv rfl rfl ?_
 refine WL.mv rfl rfl ?_
 refine WL.mv rfl rfl ?_
 obtain ⟨hin_98, hV⟩ := hV
 refine WL.runx hS rfl rfl rfl (ex_index Try.underlying28 Try.sizeOf4 rfl rfl h_3 hin_98) ?_
 intro p_99 hp_100
 refine WL.runx hS rfl rfl rfl (ex_load Try.isAgg4 rfl rfl hp_100) ?_
 intro u_101 hu_102
 obtain rfl := cBool_rep hu_102
 obtain ⟨hin_103, hV⟩ := hV
 refine WL.runx hS rfl rfl rfl (ex_index_own Try.underlying28 Try.sizeOf4 rfl rfl h_47 hin_103) ?_
 intro p_104 hp_105
 refine WL.store_own Try.sizeOf4 rfl rfl rfl cBool_mk hS h_47 hp_105 hin_103 ?_
 clear hS
 intro w fp_107 h_106 hS
 refine WL.nil ?_
 refine WQ.out nofun ?_
 refine WQ.next ?_
 refine WC.region ?_
 refine WL.mv rfl rfl ?_
 obtain ⟨hi_109, hV⟩ := hV
 refine WL.run hS rfl rfl rfl (ex_add rfl rfl hi_109) ?_
 refine WL.ma rfl rfl ?_
 refine WL.nil ?_
 exact WQ.there fun a ha => ⟨((l_44.set k_48.toNat (ix f_1 xat_90)), (k_48 + 1)), ⟨(l_44.set k_48.toNat (ix f_1 xat_90)), (k_48 + 1), v_45, fp_107, rfl, hV.1, h_106, hi_109, hS, ha.of_sub ⟨rfl, rfl, rfl, rfl, rfl, trivial⟩⟩, hV.2⟩
 clear hJ_93
 refine WC.sr ?_
 refine WL.mv rfl rfl ?_
 refine WL.run hS rfl rfl rfl (ex_not rfl) ?_
 refine WL.nx ?_
 refine WC.cond rfl ?_ ?_
 intro hc_97
 replace hV := hV.1 hc_97
 refine WC.region ?_
 refine WL.mv rfl rfl ?_
 refine WL.mv rfl rfl ?_
 obtain ⟨hi_94, hV⟩ := hV
 refine WL.run hS rfl rfl rfl (ex_shl rfl rfl hi_94) ?_
 obtain ⟨hi_96, hV⟩ := hV
 refine WL.run hS rfl rfl rfl (ex_sub rfl rfl hi_96) ?_
 refine WL.ma rfl rfl ?_
 refine WL.nil ?_
 exact WQ.there fun a ha => ⟨((nat2 (· ||| ·) k_48 ((1 : Int) * 2 ^ i_4.toNat)) - ((1 : Int) * 2 ^ i_4.toNat)), hV, hi_96, hS, ha.of_sub ⟨rfl, rfl, rfl, rfl, rfl, rfl, trivial⟩⟩
 intro hc_97
 replace hV := hV.2 hc_97
 refine WC.skip ?_
 exact WQ.there fun a ha => ⟨(nat2 (· ||| ·) k_48 ((1 : Int) * 2 ^ i_4.toNat)), hV, (nat2_or_I64 hr_49 hi_84.2.2), hS, ha.of_sub ⟨rfl, rfl, rfl, rfl, rfl, rfl, trivial⟩⟩
 intro hc_110
 replace hV := hV.2 (of_decide_eq_false hc_110)
 refine WC.exit ?_
 refine WQ.pass nofun ?_
 refine WQ.pass nofun ?_
 refine WQ.hit ?_
 refine WQ.next ?_
 refine WC.sr ?_
 refine WL.mv rfl rfl ?_
 refine WL.ma rfl rfl ?_
 refine WL.nx ?_
 refine WC.sub (m := [(6, v_45)]) ⟨rfl, trivial⟩ ?_
 refine WC.ret ?_
 exact leave1 rfl rfl ⟨l_44, v_45, fp_46, hV, rfl, h_47, hS⟩

theorem S_rOver {w0 : World} {H : View} {L : Seg} {w : World} {n_1 : Int} {v_4 : Value} {f_3 : List Bool} {i_6 : Int} {some_8 : Bool} {Q : (List Bool) → Prop} (hr_2 : I64 n_1) (h_5 : IsSl H cBool v_4 f_3) (hr_7 : I64 i_6) (hS : St w0 H (L) w) (hV : V_rOver n_1 f_3 i_6 some_8 Q) :
 Calls Try.prog 37 #[i6 n_1, v_4, i6 i_6, .bool some_8] w fun e w' => ∃ (r1 : List Bool) (v1 : Value) (H' : View), Q r1 ∧ e = .returned (v1) ∧ View.le H H' ∧ IsSl H' cBool v1 r1 ∧ St w0 H' (L) w' := by
 unfold V_rOver at hV
 refine enter Try.func37 rfl Try.ntmps37 rfl (lk_args_cons (d := 0) (v := i6 n_1) rfl (lk_args_cons (d := 1) (v := v_4) rfl (lk_args_cons (d := 2) (v := i6 i_6) rfl (lk_args_cons (d := 3) (v := .bool some_8) rfl (lk_args_nil _))))) ?_
 refine WC.sr ?_
 refine WL.ma rfl rfl ?_
 refine WL.nx ?_
 refine WC.seq ?_
 refine WC.seq ?_
 refine WC.via (m := [(1, v_4), (2, i6 i_6), (3, .bool some_8), (19, .bool (decide ((i_6 < 0) ∨ (n_1 ≤ i_6))))]) ?_ ?_
 refine WC.region ?_
 refine WL.mv rfl rfl ?_
 refine WL.run hS rfl rfl rfl (ex_lss rfl rfl) ?_
 refine WL.mv rfl rfl ?_
 rcases Bool.eq_false_or_eq_true (decide (i_6 < 0)) with hg_13 | hg_13
 refine WL.skip_g rfl rfl rfl hg_13 rfl rfl ?_
 refine WL.skip_g rfl rfl rfl hg_13 rfl rfl ?_
 refine WL.skip_g rfl rfl rfl hg_13 rfl rfl ?_
 refine WL.run hS rfl rfl rfl (ex_pick_t rfl hg_13 rfl) ?_
 refine WL.sub (m := [(0, i6 n_1), (1, v_4), (2, i6 i_6), (3, .bool some_8), (13, i6 i_6), (14, .bool (decide (i_6 < 0))), (15, .bool (decide (i_6 < 0))), (16, undef), (17, undef), (18, undef), (19, .bool (decide ((i_6 < 0) ∨ (n_1 ≤ i_6))))]) ⟨rfl, rfl, rfl, rfl, rfl, rfl, rfl, rfl, rfl, rfl, congrArg (fun b => some (Value.bool b)) (or_t hg_13 : true = decide ((i_6 < 0) ∨ (n_1 ≤ i_6))), trivial⟩ ?_
 exact WL.nil (At.of ⟨rfl, rfl, rfl, rfl, trivial⟩)
 refine WL.unguard rfl rfl hg_13 ?_
 refine WL.mv rfl rfl ?_
 refine WL.unguard rfl rfl hg_13 ?_
 refine WL.mv rfl rfl ?_
 refine WL.unguard rfl rfl hg_13 ?_
 refine WL.run hS rfl rfl rfl (ex_geq rfl rfl) ?_
 refine WL.run hS rfl rfl rfl (ex_pick_f rfl hg_13 rfl) ?_
 refine WL.sub (m := [(0, i6 n_1), (1, v_4), (2, i6 i_6), (3, .bool some_8), (13, i6 i_6), (14, .bool (decide (i_6 < 0))), (15, .bool (decide (i_6 < 0))), (16, i6 i_6), (17, i6 n_1), (18, .bool (decide (n_1 ≤ i_6))), (19, .bool (decide ((i_6 < 0) ∨ (n_1 ≤ i_6))))]) ⟨rfl, rfl, rfl, rfl, rfl, rfl, rfl, rfl, rfl, rfl, congrArg (fun b => some (Value.bool b)) (or_f hg_13 : decide (n_1 ≤ i_6) = decide ((i_6 < 0) ∨ (n_1 ≤ i_6))), trivial⟩ ?_
 exact WL.nil (At.of ⟨rfl, rfl, rfl, rfl, trivial⟩)
 refine WQ.next ?_
 refine WC.cond rfl ?_ ?_
 intro hc_509
 replace hV := hV.1 (of_decide_eq_true hc_509)
 refine WC.sr ?_
 refine WL.mv rfl rfl ?_
 refine WL.ma rfl rfl ?_
 refine WL.nx ?_
 refine WC.ret ?_
 refine WQ.pass nofun ?_
 exact leave1 rfl rfl ⟨f_3, v_4, H, hV, rfl, (View.le.refl _), h_5, hS⟩
 intro hc_509
 replace hV := hV.2 (of_decide_eq_false hc_509)
 refine WC.skip ?_
 refine WQ.next ?_
 refine WC.sr ?_
 refine WL.mv rfl rfl ?_
 refine WL.mv rfl rfl ?_
 refine WL.call rfl rfl rfl (enters0 (vs := [v_4, i6 i_6, .bool false]) Try.call70 ⟨rfl, rfl, rfl, trivial⟩) (S_rWith  h_5 hr_7 hS hV) ?_
 clear hV hS
 rintro _ w ⟨r_15, v_16, fp_17, hV, rfl, h_18, hS⟩
 refine ⟨_, rfl, ?_⟩
 refine WL.ma rfl rfl ?_
 refine WL.nx ?_
 refine WC.sr ?_
 refine WL.mv rfl rfl ?_
 refine WL.mv rfl rfl ?_
 refine WL.call rfl rfl rfl (enters0 (vs := [v_4, i6 i_6, .bool true]) Try.call70 ⟨rfl, rfl, rfl, trivial⟩) (S_rWith  h_5 hr_7 hS hV) ?_
 clear hV hS
 rintro _ w ⟨r_21, v_22, fp_23, hV, rfl, h_24, hS⟩
 refine ⟨_, rfl, ?_⟩
 refine WL.ma rfl rfl ?_
 refine WL.nx ?_
 refine WC.sr ?_
 refine WL.mv rfl rfl ?_
 have hl_27 : Len f_3 := h_5.bound
 replace hV := hV hl_27
 refine WL.run hS rfl rfl rfl (ex_len_sl Try.underlying28 rfl h_5) ?_
 obtain ⟨hm_32, hV⟩ := hV
 refine WL.make (c := cBool) (z0 := false) rfl Try.underlying28 Try.info4 rfl rfl rfl rfl hm_32.1 hm_32.2.1 hm_32.2.2 hS ?_
 clear hS
 intro v_29 w fp_30 h_31 hS
 refine WL.ma rfl rfl ?_
 refine WL.nx ?_
 refine WC.sub (m := [(3, .bool some_8), (9, v_16), (10, v_22), (11, v_29)]) ⟨rfl, rfl, rfl, rfl, trivial⟩ ?_
 refine WC.seq ?_
 refine WC.sr ?_
 refine WL.ma rfl rfl ?_
 refine WL.nx ?_
 refine WC.block ?_
 replace hS := hS.f2.f3
 obtain ⟨I_348, mu_349, hI_508, hV⟩ := hV
 refine WC.loop (σ := (List Bool) × Int) (fun s a w => ∃ (l_188 : List Bool) (k_192 : Int) (v_189 : Value) (fp_190 : Seg), s = (l_188, k_192) ∧ I_348 (l_188, k_192) ∧ OwnSl H cBool 4 v_189 l_188 fp_190 ∧ I64 k_192 ∧ St w0 H (fp_17 ++ (fp_23 ++ (fp_190 ++ L))) w ∧ Fr 65 [(3, .bool some_8), (9, v_16), (10, v_22), (11, v_189), (12, i6 k_192)] a) mu_349 ((List.replicate (f_3.length : Int).toNat false), 0) ?_ ?_
 exact fun a ha => ⟨(List.replicate (f_3.length : Int).toNat false), 0, v_29, fp_30, rfl, hI_508, h_31, (by unfold I64; omega), hS, ha.of_sub ⟨rfl, rfl, rfl, rfl, rfl, trivial⟩⟩
 clear hS hI_508
 rintro _ a w ⟨l_188, k_192, v_189, fp_190, rfl, hI, h_191, hr_193, hS, ha⟩
 refine in_frame ha ?_
 clear ha
 replace hV := hV _ hI
 clear hI
 refine WC.seq ?_
 refine WC.sr ?_
 refine WL.mv rfl rfl ?_
 refine WL.mv rfl rfl ?_
 have hl_351 : Len l_188 := h_191.bound
 replace hV := hV hl_351
 refine WL.run hS rfl rfl rfl (ex_len_own Try.underlying28 rfl h_191) ?_
 refine WL.run hS rfl rfl rfl (ex_lss rfl rfl) ?_
 refine WL.nx ?_
 refine WC.cond rfl ?_ ?_
 intro hc_507
 replace hV := hV.1 (of_decide_eq_true hc_507)
 refine WC.skip ?_
 refine WQ.next ?_
 obtain ⟨J_429, hJ_430, hV⟩ := hV
 refine WC.meet (fun a w => ∃ (l_425 : List Bool) (v_426 : Value) (fp_427 : Seg), J_429 l_425 ∧ OwnSl H cBool 4 v_426 l_425 fp_427 ∧ St w0 H (fp_17 ++ (fp_23 ++ (fp_427 ++ L))) w ∧ Fr 65 [(3, .bool some_8), (9, v_16), (10, v_22), (11, v_426), (12, i6 k_192)] a) ?_ ?_
 rintro a w ⟨l_425, v_426, fp_427, hI, h_428, hS, ha⟩
 refine in_frame ha ?_
 clear ha hV
 have hV := hJ_430 _ hI
 clear hI hJ_430
 refine WC.region ?_
 refine WL.mv rfl rfl ?_
 obtain ⟨hi_503, hV⟩ := hV
 refine WL.run hS rfl rfl rfl (ex_add rfl rfl hi_503) ?_
 refine WL.ma rfl rfl ?_
 refine WL.nil ?_
 replace hS := hS.f3.f3.f3
 exact WQ.there fun a ha => ⟨(l_425, (k_192 + 1)), ⟨l_425, (k_192 + 1), v_426, fp_427, rfl, hV.1, h_428, hi_503, hS, ha.of_sub ⟨rfl, rfl, rfl, rfl, rfl, trivial⟩⟩, hV.2⟩
 clear hJ_430
 refine WC.block ?_
 refine WC.region ?_
 refine WL.mv rfl rfl ?_
 refine WL.mv rfl rfl ?_
 refine WL.mv rfl rfl ?_
 refine WL.mv rfl rfl ?_
 obtain ⟨hin_431, hV⟩ := hV
 refine WL.runx hS rfl rfl rfl (ex_index_own Try.underlying28 Try.sizeOf4 rfl rfl h_18 hin_431) ?_
 intro p_432 hp_433
 refine WL.runx hS rfl rfl rfl (exNow (H := H) (L := fp_23 ++ (fp_190 ++ L)) (ex_load_own_s Try.isAgg4 rfl rfl h_18 hp_433 hin_431)) ?_
 intro u_434 hu_435
 obtain rfl := cBool_rep hu_435
 refine WL.mv rfl rfl ?_
 rcases Bool.eq_false_or_eq_true (ix r_15 k_192) with hg_436 | hg_436
 replace hV := hV.1 hg_436
 refine WL.unguard rfl rfl hg_436 ?_
 refine WL.mv rfl rfl ?_
 refine WL.unguard rfl rfl hg_436 ?_
 refine WL.mv rfl rfl ?_
 refine WL.unguard rfl rfl hg_436 ?_
 obtain ⟨hin_437, hV⟩ := hV
 refine WL.runx hS rfl rfl rfl (ex_index_own Try.underlying28 Try.sizeOf4 rfl rfl h_24 hin_437) ?_
 intro p_438 hp_439
 refine WL.unguard rfl rfl hg_436 ?_
 replace hS := hS.f2
 refine WL.runx hS rfl rfl rfl (exNow (H := H) (L := fp_17 ++ (fp_190 ++ L)) (ex_load_own_s Try.isAgg4 rfl rfl h_24 hp_439 hin_437)) ?_
 intro u_440 hu_441
 obtain rfl := cBool_rep hu_441
 refine WL.run hS rfl rfl rfl (ex_pick_t rfl hg_436 rfl) ?_
 refine WL.mv rfl rfl ?_
 rcases Bool.eq_false_or_eq_true (ix r_21 k_192) with hg_442 | hg_442
 replace hV := hV.1 hg_442
 refine WL.skip_g rfl rfl rfl hg_442 rfl rfl ?_
 refine WL.skip_g rfl rfl rfl hg_442 rfl rfl ?_
 refine WL.skip_u rfl rfl rfl rfl rfl ?_
 refine WL.skip_u rfl rfl rfl rfl rfl ?_
 refine WL.skip_u rfl rfl rfl rfl rfl ?_
 refine WL.skip_u rfl rfl rfl rfl rfl ?_
 refine WL.skip_u rfl rfl rfl rfl rfl ?_
 refine WL.skip_u rfl rfl rfl rfl rfl ?_
 refine WL.skip_u rfl rfl rfl rfl rfl ?_
 refine WL.skip_u rfl rfl rfl rfl rfl ?_
 refine WL.skip_u rfl rfl rfl rfl rfl ?_
 refine WL.skip_u rfl rfl rfl rfl rfl ?_
 refine WL.skip_g rfl rfl rfl hg_442 rfl rfl ?_
 refine WL.run hS rfl rfl rfl (ex_pick_t rfl hg_442 rfl) ?_
 obtain ⟨hin_443, hV⟩ := hV
 refine WL.runx hS rfl rfl rfl (ex_index_own Try.underlying28 Try.sizeOf4 rfl rfl h_191 hin_443) ?_
 intro p_444 hp_445
 replace hS := hS.f3
 refine WL.store_own Try.sizeOf4 rfl rfl rfl cBool_mk hS h_191 hp_445 hin_443 ?_
 clear hS
 intro w fp_447 h_446 hS
 refine WL.nil ?_
 refine WQ.out nofun ?_
 replace hS := hS.f2.f3
 exact WQ.there fun a ha => ⟨(l_188.set k_192.toNat true), v_189, fp_447, hV, h_446, hS, ha.of_sub ⟨rfl, rfl, rfl, rfl, rfl, trivial⟩⟩
 replace hV := hV.2 hg_442
 refine WL.unguard rfl rfl hg_442 ?_
 refine WL.mv rfl rfl ?_
 refine WL.unguard rfl rfl hg_442 ?_
 refine WL.mv rfl rfl ?_
 rcases Bool.eq_false_or_eq_true some_8 with hg_448 | hg_448
 replace hV := hV.1 hg_448
 refine WL.unguard rfl rfl hg_448 ?_
 refine WL.mv rfl rfl ?_
 refine WL.unguard rfl rfl hg_448 ?_
 refine WL.mv rfl rfl ?_
 refine WL.unguard rfl rfl hg_448 ?_
 obtain ⟨hin_449, hV⟩ := hV
 refine WL.runx hS rfl rfl rfl (ex_index_own Try.underlying28 Try.sizeOf4 rfl rfl h_18 hin_449) ?_
 intro p_450 hp_451
 refine WL.unguard rfl rfl hg_448 ?_
 replace hS := hS.f2
 refine WL.runx hS rfl rfl rfl (exNow (H := H) (L := fp_23 ++ (fp_190 ++ L)) (ex_load_own_s Try.isAgg4 rfl rfl h_18 hp_451 hin_449)) ?_
 intro u_452 hu_453
 obtain rfl := cBool_rep hu_453
 refine WL.unguard rfl rfl hg_448 ?_
 refine WL.mv rfl rfl ?_
 rcases Bool.eq_false_or_eq_true (ix r_15 k_192) with hg_454 | hg_454
 replace hV := hV.1 hg_454
 refine WL.skip_g rfl rfl rfl hg_454 rfl rfl ?_
 refine WL.skip_g rfl rfl rfl hg_454 rfl rfl ?_
 refine WL.skip_g rfl rfl rfl hg_454 rfl rfl ?_
 refine WL.skip_g rfl rfl rfl hg_454 rfl rfl ?_
 refine WL.unguard rfl rfl hg_448 ?_
 refine WL.run hS rfl rfl rfl (ex_pick_t rfl hg_454 rfl) ?_
 refine WL.unguard rfl rfl hg_442 ?_
 refine WL.run hS rfl rfl rfl (ex_pick_t rfl hg_448 rfl) ?_
 refine WL.run hS rfl rfl rfl (ex_pick_f rfl hg_442 rfl) ?_
 obtain ⟨hin_455, hV⟩ := hV
 refine WL.runx hS rfl rfl rfl (ex_index_own Try.underlying28 Try.sizeOf4 rfl rfl h_191 hin_455) ?_
 intro p_456 hp_457
 replace hS := hS.f3
 refine WL.store_own Try.sizeOf4 rfl rfl rfl cBool_mk hS h_191 hp_457 hin_455 ?_
 clear hS
 intro w fp_459 h_458 hS
 refine WL.nil ?_
 refine WQ.out nofun ?_
 replace hS := hS.f3.f3
 exact WQ.there fun a ha => ⟨(l_188.set k_192.toNat true), v_189, fp_459, hV, h_458, hS, ha.of_sub ⟨rfl, rfl, rfl, rfl, rfl, trivial⟩⟩
 replace hV := hV.2 hg_454
 refine WL.unguard rfl rfl hg_454 ?_
 refine WL.mv rfl rfl ?_
 refine WL.unguard rfl rfl hg_454 ?_
 refine WL.mv rfl rfl ?_
 refine WL.unguard rfl rfl hg_454 ?_
 obtain ⟨hin_460, hV⟩ := hV
 refine WL.runx hS rfl rfl rfl (ex_index_own Try.underlying28 Try.sizeOf4 rfl rfl h_24 hin_460) ?_
 intro p_461 hp_462
 refine WL.unguard rfl rfl hg_454 ?_
 replace hS := hS.f2
 refine WL.runx hS rfl rfl rfl (exNow (H := H) (L := fp_17 ++ (fp_190 ++ L)) (ex_load_own_s Try.isAgg4 rfl rfl h_24 hp_462 hin_460)) ?_
 intro u_463 hu_464
 obtain rfl := cBool_rep hu_464
 refine WL.unguard rfl rfl hg_448 ?_
 refine WL.run hS rfl rfl rfl (ex_pick_f rfl hg_454 rfl) ?_
 refine WL.unguard rfl rfl hg_442 ?_
 refine WL.run hS rfl rfl rfl (ex_pick_t rfl hg_448 rfl) ?_
 refine WL.run hS rfl rfl rfl (ex_pick_f rfl hg_442 rfl) ?_
 obtain ⟨hin_465, hV⟩ := hV
 refine WL.runx hS rfl rfl rfl (ex_index_own Try.underlying28 Try.sizeOf4 rfl rfl h_191 hin_465) ?_
 intro p_466 hp_467
 replace hS := hS.f3
 refine WL.store_own Try.sizeOf4 rfl rfl rfl cBool_mk hS h_191 hp_467 hin_465 ?_
 clear hS
 intro w fp_469 h_468 hS
 refine WL.nil ?_
 refine WQ.out nofun ?_
 replace hS := hS.f2.f3
 exact WQ.there fun a ha => ⟨(l_188.set k_192.toNat (ix r_21 k_192)), v_189, fp_469, hV, h_468, hS, ha.of_sub ⟨rfl, rfl, rfl, rfl, rfl, trivial⟩⟩
 replace hV := hV.2 hg_448
 refine WL.skip_g rfl rfl rfl hg_448 rfl rfl ?_
 refine WL.skip_g rfl rfl rfl hg_448 rfl rfl ?_
 refine WL.skip_g rfl rfl rfl hg_448 rfl rfl ?_
 refine WL.skip_g rfl rfl rfl hg_448 rfl rfl ?_
 refine WL.skip_g rfl rfl rfl hg_448 rfl rfl ?_
 refine WL.skip_u rfl rfl rfl rfl rfl ?_
 refine WL.skip_u rfl rfl rfl rfl rfl ?_
 refine WL.skip_u rfl rfl rfl rfl rfl ?_
 refine WL.skip_u rfl rfl rfl rfl rfl ?_
 refine WL.skip_g rfl rfl rfl hg_448 rfl rfl ?_
 refine WL.unguard rfl rfl hg_442 ?_
 refine WL.run hS rfl rfl rfl (ex_pick_f rfl hg_448 rfl) ?_
 refine WL.run hS rfl rfl rfl (ex_pick_f rfl hg_442 rfl) ?_
 obtain ⟨hin_470, hV⟩ := hV
 refine WL.runx hS rfl rfl rfl (ex_index_own Try.underlying28 Try.sizeOf4 rfl rfl h_191 hin_470) ?_
 intro p_471 hp_472
 replace hS := hS.f3
 refine WL.store_own Try.sizeOf4 rfl rfl rfl cBool_mk hS h_191 hp_472 hin_470 ?_
 clear hS
 intro w fp_474 h_473 hS
 refine WL.nil ?_
 refine WQ.out nofun ?_
 replace hS := hS.f2.f3
 exact WQ.there fun a ha => ⟨(l_188.set k_192.toNat false), v_189, fp_474, hV, h_473, hS, ha.of_sub ⟨rfl, rfl, rfl, rfl, rfl, trivial⟩⟩
 replace hV := hV.2 hg_436
 refine WL.skip_g rfl rfl rfl hg_436 rfl rfl ?_
 refine WL.skip_g rfl rfl rfl hg_436 rfl rfl ?_
 refine WL.skip_g rfl rfl rfl hg_436 rfl rfl ?_
 refine WL.skip_g rfl rfl rfl hg_436 rfl rfl ?_
 refine WL.run hS rfl rfl rfl (ex_pick_f rfl hg_436 rfl) ?_
 refine WL.mv rfl rfl ?_
 refine WL.unguard rfl rfl rfl ?_
 refine WL.mv rfl rfl ?_
 refine WL.unguard rfl rfl rfl ?_
 refine WL.mv rfl rfl ?_
 rcases Bool.eq_false_or_eq_true some_8 with hg_475 | hg_475
 replace hV := hV.1 hg_475
 refine WL.unguard rfl rfl hg_475 ?_
 refine WL.mv rfl rfl ?_
 refine WL.unguard rfl rfl hg_475 ?_
 refine WL.mv rfl rfl ?_
 refine WL.unguard rfl rfl hg_475 ?_
 obtain ⟨hin_476, hV⟩ := hV
 refine WL.runx hS rfl rfl rfl (ex_index_own Try.underlying28 Try.sizeOf4 rfl rfl h_18 hin_476) ?_
 intro p_477 hp_478
 refine WL.unguard rfl rfl hg_475 ?_
 refine WL.runx hS rfl rfl rfl (exNow (H := H) (L := fp_23 ++ (fp_190 ++ L)) (ex_load_own_s Try.isAgg4 rfl rfl h_18 hp_478 hin_476)) ?_
 intro u_479 hu_480
 obtain rfl := cBool_rep hu_480
 refine WL.unguard rfl rfl hg_475 ?_
 refine WL.mv rfl rfl ?_
 rcases Bool.eq_false_or_eq_true (ix r_15 k_192) with hg_481 | hg_481
 replace hV := hV.1 hg_481
 refine WL.skip_g rfl rfl rfl hg_481 rfl rfl ?_
 refine WL.skip_g rfl rfl rfl hg_481 rfl rfl ?_
 refine WL.skip_g rfl rfl rfl hg_481 rfl rfl ?_
 refine WL.skip_g rfl rfl rfl hg_481 rfl rfl ?_
 refine WL.unguard rfl rfl hg_475 ?_
 refine WL.run hS rfl rfl rfl (ex_pick_t rfl hg_481 rfl) ?_
 refine WL.unguard rfl rfl rfl ?_
 refine WL.run hS rfl rfl rfl (ex_pick_t rfl hg_475 rfl) ?_
 refine WL.run hS rfl rfl rfl (ex_pick_f rfl rfl rfl) ?_
 obtain ⟨hin_482, hV⟩ := hV
 refine WL.runx hS rfl rfl rfl (ex_index_own Try.underlying28 Try.sizeOf4 rfl rfl h_191 hin_482) ?_
 intro p_483 hp_484
 replace hS := hS.f3
 refine WL.store_own Try.sizeOf4 rfl rfl rfl cBool_mk hS h_191 hp_484 hin_482 ?_
 clear hS
 intro w fp_486 h_485 hS
 refine WL.nil ?_
 refine WQ.out nofun ?_
 replace hS := hS.f3.f3
 exact WQ.there fun a ha => ⟨(l_188.set k_192.toNat true), v_189, fp_486, hV, h_485, hS, ha.of_sub ⟨rfl, rfl, rfl, rfl, rfl, trivial⟩⟩
 replace hV := hV.2 hg_481
 refine WL.unguard rfl rfl hg_481 ?_
 refine WL.mv rfl rfl ?_
 refine WL.unguard rfl rfl hg_481 ?_
 refine WL.mv rfl rfl ?_
 refine WL.unguard rfl rfl hg_481 ?_
 obtain ⟨hin_487, hV⟩ := hV
 refine WL.runx hS rfl rfl rfl (ex_index_own Try.underlying28 Try.sizeOf4 rfl rfl h_24 hin_487) ?_
 intro p_488 hp_489
 refine WL.unguard rfl rfl hg_481 ?_
 replace hS := hS.f2
 refine WL.runx hS rfl rfl rfl (exNow (H := H) (L := fp_17 ++ (fp_190 ++ L)) (ex_load_own_s Try.isAgg4 rfl rfl h_24 hp_489 hin_487)) ?_
 intro u_490 hu_491
 obtain rfl := cBool_rep hu_491
 refine WL.unguard rfl rfl hg_475 ?_
 refine WL.run hS rfl rfl rfl (ex_pick_f rfl hg_481 rfl) ?_
 refine WL.unguard rfl rfl rfl ?_
 refine WL.run hS rfl rfl rfl (ex_pick_t rfl hg_475 rfl) ?_
 refine WL.run hS rfl rfl rfl (ex_pick_f rfl rfl rfl) ?_
 obtain ⟨hin_492, hV⟩ := hV
 refine WL.runx hS rfl rfl rfl (ex_index_own Try.underlying28 Try.sizeOf4 rfl rfl h_191 hin_492) ?_
 intro p_493 hp_494
 replace hS := hS.f3
 refine WL.store_own Try.sizeOf4 rfl rfl rfl cBool_mk hS h_191 hp_494 hin_492 ?_
 clear hS
 intro w fp_496 h_495 hS
 refine WL.nil ?_
 refine WQ.out nofun ?_
 replace hS := hS.f2.f3
 exact WQ.there fun a ha => ⟨(l_188.set k_192.toNat (ix r_21 k_192)), v_189, fp_496, hV, h_495, hS, ha.of_sub ⟨rfl, rfl, rfl, rfl, rfl, trivial⟩⟩
 replace hV := hV.2 hg_475
 refine WL.skip_g rfl rfl rfl hg_475 rfl rfl ?_
 refine WL.skip_g rfl rfl rfl hg_475 rfl rfl ?_
 refine WL.skip_g rfl rfl rfl hg_475 rfl rfl ?_
 refine WL.skip_g rfl rfl rfl hg_475 rfl rfl ?_
 refine WL.skip_g rfl rfl rfl hg_475 rfl rfl ?_
 refine WL.skip_u rfl rfl rfl rfl rfl ?_
 refine WL.skip_u rfl rfl rfl rfl rfl ?_
 refine WL.skip_u rfl rfl rfl rfl rfl ?_
 refine WL.skip_u rfl rfl rfl rfl rfl ?_
 refine WL.skip_g rfl rfl rfl hg_475 rfl rfl ?_
 refine WL.unguard rfl rfl rfl ?_
 refine WL.run hS rfl rfl rfl (ex_pick_f rfl hg_475 rfl) ?_
 refine WL.run hS rfl rfl rfl (ex_pick_f rfl rfl rfl) ?_
 obtain ⟨hin_497, hV⟩ := hV
 refine WL.runx hS rfl rfl rfl (ex_index_own Try.underlying28 Try.sizeOf4 rfl rfl h_191 hin_497) ?_
 intro p_498 hp_499
 replace hS := hS.f3
 refine WL.store_own Try.sizeOf4 rfl rfl rfl cBool_mk hS h_191 hp_499 hin_497 ?_
 clear hS
 intro w fp_501 h_500 hS
 refine WL.nil ?_
 refine WQ.out nofun ?_
 replace hS := hS.f3.f3
 exact WQ.there fun a ha => ⟨(l_188.set k_192.toNat false), v_189, fp_501, hV, h_500, hS, ha.of_sub ⟨rfl, rfl, rfl, rfl, rfl, trivial⟩⟩
 intro hc_507
 replace hV := hV.2 (of_decide_eq_false hc_507)
 refine WC.exit ?_
 refine WQ.pass nofun ?_
 refine WQ.pass nofun ?_
 refine WQ.hit ?_
 refine WQ.next ?_
 replace hS := hS.drop
 replace hS := hS.drop
 refine WC.sr ?_
 refine WL.mv rfl rfl ?_
 refine WL.ma rfl rfl ?_
 refine WL.nx ?_
 refine WC.sub (m := [(8, v_189)]) ⟨rfl, trivial⟩ ?_
 refine WC.ret ?_
 obtain ⟨H_504, le_505, h_506, hS⟩ : ∃ K, View.le H K ∧ IsSl K cBool v_189 l_188 ∧ St w0 K (L) w := ⟨_, hS.put_le, h_191.share hS.put_le, hS.freeze⟩
 exact leave1 rfl rfl ⟨l_188, v_189, H_504, hV, rfl, ((View.le.refl _).trans le_505), h_506, hS⟩

theorem S_rLet {w0 : World} {H : View} {L : Seg} {w : World} {n_1 : Int} {v_4 : Value} {f_3 : List Bool} {i_6 : Int} {v_9 : Value} {g_8 : List Bool} {Q : (List Bool) → Prop} (hr_2 : I64 n_1) (h_5 : IsSl H cBool v_4 f_3) (hr_7 : I64 i_6) (h_10 : IsSl H cBool v_9 g_8) (hS : St w0 H (L) w) (hV : V_rLet n_1 f_3 i_6 g_8 Q) :
 Calls Try.prog 39 #[i6 n_1, v_4, i6 i_6, v_9] w fun e w' => ∃ (r1 : List Bool) (v1 : Value) (H' : View), Q r1 ∧ e = .returned (v1) ∧ View.le H H' ∧ IsSl H' cBool v1 r1 ∧ St w0 H' (L) w' := by
 unfold V_rLet at hV
 refine enter Try.func39 rfl Try.ntmps39 rfl (lk_args_cons (d := 0) (v := i6 n_1) rfl (lk_args_cons (d := 1) (v := v_4) rfl (lk_args_cons (d := 2) (v := i6 i_6) rfl (lk_args_cons (d := 3) (v := v_9) rfl (lk_args_nil _))))) ?_
 refine WC.sr ?_
 refine WL.ma rfl rfl ?_
 refine WL.nx ?_
 refine WC.seq ?_
 refine WC.seq ?_
 refine WC.via (m := [(1, v_4), (2, i6 i_6), (3, v_9), (17, .bool (decide ((i_6 < 0) ∨ (n_1 ≤ i_6))))]) ?_ ?_
 refine WC.region ?_
 refine WL.mv rfl rfl ?_
 refine WL.run hS rfl rfl rfl (ex_lss rfl rfl) ?_
 refine WL.mv rfl rfl ?_
 rcases Bool.eq_false_or_eq_true (decide (i_6 < 0)) with hg_15 | hg_15
 refine WL.skip_g rfl rfl rfl hg_15 rfl rfl ?_
 refine WL.skip_g rfl rfl rfl hg_15 rfl rfl ?_
 refine WL.skip_g rfl rfl rfl hg_15 rfl rfl ?_
 refine WL.run hS rfl rfl rfl (ex_pick_t rfl hg_15 rfl) ?_
 refine WL.sub (m := [(0, i6 n_1), (1, v_4), (2, i6 i_6), (3, v_9), (11, i6 i_6), (12, .bool (decide (i_6 < 0))), (13, .bool (decide (i_6 < 0))), (14, undef), (15, undef), (16, undef), (17, .bool (decide ((i_6 < 0) ∨ (n_1 ≤ i_6))))]) ⟨rfl, rfl, rfl, rfl, rfl, rfl, rfl, rfl, rfl, rfl, congrArg (fun b => some (Value.bool b)) (or_t hg_15 : true = decide ((i_6 < 0) ∨ (n_1 ≤ i_6))), trivial⟩ ?_
 exact WL.nil (At.of ⟨rfl, rfl, rfl, rfl, trivial⟩)
 refine WL.unguard rfl rfl hg_15 ?_
 refine WL.mv rfl rfl ?_
 refine WL.unguard rfl rfl hg_15 ?_
 refine WL.mv rfl rfl ?_
 refine WL.unguard rfl rfl hg_15 ?_
 refine WL.run hS rfl rfl rfl (ex_geq rfl rfl) ?_
 refine WL.run hS rfl rfl rfl (ex_pick_f rfl hg_15 rfl) ?_
 refine WL.sub (m := [(0, i6 n_1), (1, v_4), (2, i6 i_6), (3, v_9), (11, i6 i_6), (12, .bool (decide (i_6 < 0))), (13, .bool (decide (i_6 < 0))), (14, i6 i_6), (15, i6 n_1), (16, .bool (decide (n_1 ≤ i_6))), (17, .bool (decide ((i_6 < 0) ∨ (n_1 ≤ i_6))))]) ⟨rfl, rfl, rfl, rfl, rfl, rfl, rfl, rfl, rfl, rfl, congrArg (fun b => some (Value.bool b)) (or_f hg_15 : decide (n_1 ≤ i_6) = decide ((i_6 < 0) ∨ (n_1 ≤ i_6))), trivial⟩ ?_
 exact WL.nil (At.of ⟨rfl, rfl, rfl, rfl, trivial⟩)
 refine WQ.next ?_
 refine WC.cond rfl ?_ ?_
 intro hc_43
 replace hV := hV.1 (of_decide_eq_true hc_43)
 refine WC.sr ?_
 refine WL.mv rfl rfl ?_
 refine WL.ma rfl rfl ?_
 refine WL.nx ?_
 refine WC.ret ?_
 refine WQ.pass nofun ?_
 exact leave1 rfl rfl ⟨f_3, v_4, H, hV, rfl, (View.le.refl _), h_5, hS⟩
 intro hc_43
 replace hV := hV.2 (of_decide_eq_false hc_43)
 refine WC.skip ?_
 refine WQ.next ?_
 refine WC.sr ?_
 refine WL.mv rfl rfl ?_
 refine WL.mv rfl rfl ?_
 refine WL.call rfl rfl rfl (enters0 (vs := [v_4, i6 i_6, .bool true]) Try.call70 ⟨rfl, rfl, rfl, trivial⟩) (S_rWith  h_5 hr_7 hS hV) ?_
 clear hV hS
 rintro _ w ⟨r_17, v_18, fp_19, hV, rfl, h_20, hS⟩
 refine ⟨_, rfl, ?_⟩
 refine WL.ma rfl rfl ?_
 refine WL.nx ?_
 refine WC.sr ?_
 refine WL.mv rfl rfl ?_
 refine WL.mv rfl rfl ?_
 refine WL.call rfl rfl rfl (enters0 (vs := [v_4, i6 i_6, .bool false]) Try.call70 ⟨rfl, rfl, rfl, trivial⟩) (S_rWith  h_5 hr_7 hS hV) ?_
 clear hV hS
 rintro _ w ⟨r_23, v_24, fp_25, hV, rfl, h_26, hS⟩
 refine ⟨_, rfl, ?_⟩
 refine WL.ma rfl rfl ?_
 refine WL.nx ?_
 refine WC.sub (m := [(3, v_9), (9, v_18), (10, v_24)]) ⟨rfl, rfl, rfl, trivial⟩ ?_
 refine WC.sr ?_
 refine WL.mv rfl rfl ?_
 refine WL.mv rfl rfl ?_
 refine WL.mv rfl rfl ?_
 replace hS := hS.f2
 have hL_29 := hS.freeze
 have hL_30 := hL_29.freeze
 refine WL.call rfl rfl rfl (enters0 (vs := [v_9, v_18, v_24]) Try.call30 ⟨rfl, rfl, rfl, trivial⟩) (S_rIte  ((h_10.mono hS.put_le).mono hL_29.put_le) ((h_20.share hS.put_le).mono hL_29.put_le) ((h_26.mono hS.put_le).share hL_29.put_le) hL_30 hV) ?_
 clear hV
 rintro _ w ⟨r_31, v_32, fp_33, hV, rfl, h_34, hL_36⟩
 refine ⟨_, rfl, ?_⟩
 have hB_38 := hL_29.back hL_36
 have hB_39 := hS.back hB_38
 replace hS := hB_39
 clear hL_36 hL_29 hL_30 hB_38 hB_39
 replace h_34 := rep_own (K := H) h_34 (fun _ _ h => h)
 refine WL.ma rfl rfl ?_
 refine WL.nx ?_
 replace hS := hS.drop
 replace hS := hS.drop
 refine WC.ret ?_
 obtain ⟨H_40, le_41, h_42, hS⟩ : ∃ K, View.le H K ∧ IsSl K cBool v_32 r_31 ∧ St w0 K (L) w := ⟨_, hS.put_le, h_34.share hS.put_le, hS.freeze⟩
 exact leave1 rfl rfl ⟨r_31, v_32, H_40, hV, rfl, ((View.le.refl _).trans le_41), h_42, hS⟩

theorem S_rSame {w0 : World} {H : View} {L : Seg} {w : World} {v_2 : Value} {f_1 : List Bool} {v_5 : Value} {g_4 : List Bool} {Q : Bool → Prop} (h_3 : IsSl H cBool v_2 f_1) (h_6 : IsSl H cBool v_5 g_4) (hS : St w0 H (L) w) (hV : V_rSame f_1 g_4 Q) :
 Calls Try.prog 41 #[v_2, v_5] w fun e w' => ∃ (r1 : Bool), Q r1 ∧ e = .returned (.bool r1) ∧ St w0 H (L) w' := by
 unfold V_rSame at hV
 refine enter Try.func41 rfl Try.ntmps41 rfl (lk_args_cons (d := 0) (v := v_2) rfl (lk_args_cons (d := 1) (v := v_5) rfl (lk_args_nil _))) ?_
 refine WC.sr ?_
 refine WL.ma rfl rfl ?_
 refine WL.nx ?_
 refine WC.seq ?_
 refine WC.sr ?_
 refine WL.mv rfl rfl ?_
 have hl_7 : Len f_1 := h_3.bound
 replace hV := hV hl_7
 refine WL.run hS rfl rfl rfl (ex_len_sl Try.underlying28 rfl h_3) ?_
 refine WL.mv rfl rfl ?_
 have hl_8 : Len g_4 := h_6.bound
 replace hV := hV hl_8
 refine WL.run hS rfl rfl rfl (ex_len_sl Try.underlying28 rfl h_6) ?_
 refine WL.run hS rfl rfl rfl (ex_neq rfl rfl) ?_
 refine WL.nx ?_
 refine WC.cond rfl ?_ ?_
 intro hc_64
 replace hV := hV.1 (of_decide_eq_true hc_64)
 refine WC.sr ?_
 refine WL.ma rfl rfl ?_
 refine WL.nx ?_
 refine WC.ret ?_
 refine WQ.pass nofun ?_
 exact leave1 rfl rfl ⟨false, hV, rfl, hS⟩
 intro hc_64
 replace hV := hV.2 (of_decide_eq_false hc_64)
 refine WC.skip ?_
 refine WQ.next ?_
 refine WC.seq ?_
 refine WC.sr ?_
 refine WL.ma rfl rfl ?_
 refine WL.nx ?_
 refine WC.block ?_
 obtain ⟨I_44, mu_45, hI_63, hV⟩ := hV
 refine WC.loop (σ := Int) (fun s a w => ∃ (k_26 : Int), s = k_26 ∧ I_44 k_26 ∧ I64 k_26 ∧ St w0 H (L) w ∧ Fr 26 [(0, v_2), (1, v_5), (5, i6 k_26)] a) mu_45 0 ?_ ?_
 exact fun a ha => ⟨0, rfl, hI_63, (by unfold I64; omega), hS, ha.of_sub ⟨rfl, rfl, rfl, trivial⟩⟩
 clear hS hI_63
 rintro k_26 a w ⟨_, rfl, hI, hr_27, hS, ha⟩
 refine in_frame ha ?_
 clear ha
 replace hV := hV _ hI
 clear hI
 refine WC.seq ?_
 refine WC.sr ?_
 refine WL.mv rfl rfl ?_
 refine WL.mv rfl rfl ?_
 have hl_47 : Len f_1 := h_3.bound
 replace hV := hV hl_47
 refine WL.run hS rfl rfl rfl (ex_len_sl Try.underlying28 rfl h_3) ?_
 refine WL.run hS rfl rfl rfl (ex_lss rfl rfl) ?_
 refine WL.nx ?_
 refine WC.cond rfl ?_ ?_
 intro hc_62
 replace hV := hV.1 (of_decide_eq_true hc_62)
 refine WC.skip ?_
 refine WQ.next ?_
 refine WC.seq ?_
 refine WC.block ?_
 refine WC.seq ?_
 refine WC.quiet (C := St w0 H (L)) Try.mixed (by kernel_rfl) (hS.drawn _) ?_
 clear hS w
 refine Wq.run rfl rfl rfl (ex_move rfl) ?_
 refine Wq.run rfl rfl rfl (ex_move rfl) ?_
 obtain ⟨hin_49, hV⟩ := hV
 refine Wq.runx rfl rfl rfl (ex_index Try.underlying28 Try.sizeOf4 rfl rfl h_3 hin_49) ?_
 intro p_50 hp_51
 refine Wq.runx rfl rfl rfl (ex_load Try.isAgg4 rfl rfl hp_51) ?_
 intro u_52 hu_53
 obtain rfl := cBool_rep hu_53
 refine Wq.run rfl rfl rfl (ex_move rfl) ?_
 refine Wq.run rfl rfl rfl (ex_move rfl) ?_
 obtain ⟨hin_54, hV⟩ := hV
 refine Wq.runx rfl rfl rfl (ex_index Try.underlying28 Try.sizeOf4 rfl rfl h_6 hin_54) ?_
 intro p_55 hp_56
 refine Wq.runx rfl rfl rfl (ex_load Try.isAgg4 rfl rfl hp_56) ?_
 intro u_57 hu_58
 obtain rfl := cBool_rep hu_58
 refine Wq.run rfl rfl rfl (ex_bneq Try.underlying4 rfl rfl) ?_
 refine Wq.nil fun w hS => ?_
 refine WQ.next ?_
 refine WC.sub (m := [(0, v_2), (1, v_5), (5, i6 k_26), (25, .bool (!((ix f_1 k_26) == (ix g_4 k_26))))]) ⟨rfl, rfl, rfl, rfl, trivial⟩ ?_
 refine WC.cond rfl ?_ ?_
 intro hc_61
 replace hV := hV.1 hc_61
 refine WC.sr ?_
 refine WL.ma rfl rfl ?_
 refine WL.nx ?_
 refine WC.ret ?_
 refine WQ.out nofun ?_
 refine WQ.pass nofun ?_
 refine WQ.pass nofun ?_
 refine WQ.out nofun ?_
 refine WQ.pass nofun ?_
 exact leave1 rfl rfl ⟨false, hV, rfl, hS⟩
 intro hc_61
 replace hV := hV.2 hc_61
 refine WC.skip ?_
 refine WQ.out nofun ?_
 refine WQ.next ?_
 refine WC.region ?_
 refine WL.mv rfl rfl ?_
 obtain ⟨hi_60, hV⟩ := hV
 refine WL.run hS rfl rfl rfl (ex_add rfl rfl hi_60) ?_
 refine WL.ma rfl rfl ?_
 refine WL.nil ?_
 exact WQ.there fun a ha => ⟨(k_26 + 1), ⟨(k_26 + 1), rfl, hV.1, hi_60, hS, ha.of_sub ⟨rfl, rfl, rfl, trivial⟩⟩, hV.2⟩
 intro hc_62
 replace hV := hV.2 (of_decide_eq_false hc_62)
 refine WC.exit ?_
 refine WQ.pass nofun ?_
 refine WQ.pass nofun ?_
 refine WQ.hit ?_
 refine WQ.next ?_
 refine WC.sr ?_
 refine WL.ma rfl rfl ?_
 refine WL.nx ?_
 refine WC.ret ?_
 exact leave1 rfl rfl ⟨true, hV, rfl, hS⟩

theorem S_rHangs {w0 : World} {H : View} {L : Seg} {w : World} {v_2 : Value} {f_1 : List Bool} {i_4 : Int} {Q : Bool → Prop} (h_3 : IsSl H cBool v_2 f_1) (hr_5 : I64 i_4) (hS : St w0 H (L) w) (hV : V_rHangs f_1 i_4 Q) :
 Calls Try.prog 78 #[v_2, i6 i_4] w fun e w' => ∃ (r1 : Bool), Q r1 ∧ e = .returned (.bool r1) ∧ St w0 H (L) w' := by
 unfold V_rHangs at hV
 refine enter Try.func78 rfl Try.ntmps78 rfl (lk_args_cons (d := 0) (v := v_2) rfl (lk_args_cons (d := 1) (v := i6 i_4) rfl (lk_args_nil _))) ?_
 refine WC.sr ?_
 refine WL.ma rfl rfl ?_
 refine WL.nx ?_
 refine WC.seq ?_
 refine WC.sr ?_
 refine WL.ma rfl rfl ?_
 refine WL.nx ?_
 refine WC.block ?_
 obtain ⟨I_44, mu_45, hI_65, hV⟩ := hV
 refine WC.loop (σ := Int) (fun s a w => ∃ (k_24 : Int), s = k_24 ∧ I_44 k_24 ∧ I64 k_24 ∧ St w0 H (L) w ∧ Fr 24 [(0, v_2), (1, i6 i_4), (5, i6 k_24)] a) mu_45 0 ?_ ?_
 exact fun a ha => ⟨0, rfl, hI_65, (by unfold I64; omega), hS, ha.of_sub ⟨rfl, rfl, rfl, trivial⟩⟩
 clear hS hI_65
 rintro k_24 a w ⟨_, rfl, hI, hr_25, hS, ha⟩
 refine in_frame ha ?_
 clear ha
 replace hV := hV _ hI
 clear hI
 refine WC.seq ?_
 refine WC.sr ?_
 refine WL.mv rfl rfl ?_
 refine WL.mv rfl rfl ?_
 have hl_47 : Len f_1 := h_3.bound
 replace hV := hV hl_47
 refine WL.run hS rfl rfl rfl (ex_len_sl Try.underlying28 rfl h_3) ?_
 refine WL.run hS rfl rfl rfl (ex_lss rfl rfl) ?_
 refine WL.nx ?_
 refine WC.cond rfl ?_ ?_
 intro hc_64
 replace hV := hV.1 (of_decide_eq_true hc_64)
 refine WC.skip ?_
 refine WQ.next ?_
 refine WC.seq ?_
 refine WC.block ?_
 refine WC.seq ?_
 refine WC.quiet (C := St w0 H (L)) Try.mixed (by kernel_rfl) (hS.drawn _) ?_
 clear hS w
 refine Wq.run rfl rfl rfl (ex_move rfl) ?_
 refine Wq.run rfl rfl rfl (ex_move rfl) ?_
 obtain ⟨hin_49, hV⟩ := hV
 refine Wq.runx rfl rfl rfl (ex_index Try.underlying28 Try.sizeOf4 rfl rfl h_3 hin_49) ?_
 intro p_50 hp_51
 refine Wq.runx rfl rfl rfl (ex_load Try.isAgg4 rfl rfl hp_51) ?_
 intro u_52 hu_53
 obtain rfl := cBool_rep hu_53
 refine Wq.run rfl rfl rfl (ex_move rfl) ?_
 refine Wq.run rfl rfl rfl (ex_move rfl) ?_
 refine Wq.run rfl rfl rfl (ex_move rfl) ?_
 obtain ⟨hi_54, hV⟩ := hV
 refine Wq.run rfl rfl rfl (ex_shl rfl rfl hi_54) ?_
 obtain ⟨hi_55, hV⟩ := hV
 refine Wq.run rfl rfl rfl (ex_xor rfl rfl hr_25 hi_54.2.2 hi_55) ?_
 obtain ⟨hin_56, hV⟩ := hV
 refine Wq.runx rfl rfl rfl (ex_index Try.underlying28 Try.sizeOf4 rfl rfl h_3 hin_56) ?_
 intro p_57 hp_58
 refine Wq.runx rfl rfl rfl (ex_load Try.isAgg4 rfl rfl hp_58) ?_
 intro u_59 hu_60
 obtain rfl := cBool_rep hu_60
 refine Wq.run rfl rfl rfl (ex_bneq Try.underlying4 rfl rfl) ?_
 refine Wq.nil fun w hS => ?_
 refine WQ.next ?_
 refine WC.sub (m := [(0, v_2), (1, i6 i_4), (5, i6 k_24), (23, .bool (!((ix f_1 k_24) == (ix f_1 (nat2 (· ^^^ ·) k_24 ((1 : Int) * 2 ^ i_4.toNat))))))]) ⟨rfl, rfl, rfl, rfl, trivial⟩ ?_
 refine WC.cond rfl ?_ ?_
 intro hc_63
 replace hV := hV.1 hc_63
 refine WC.sr ?_
 refine WL.ma rfl rfl ?_
 refine WL.nx ?_
 refine WC.ret ?_
 refine WQ.out nofun ?_
 refine WQ.pass nofun ?_
 refine WQ.pass nofun ?_
 refine WQ.out nofun ?_
 refine WQ.pass nofun ?_
 exact leave1 rfl rfl ⟨true, hV, rfl, hS⟩
 intro hc_63
 replace hV := hV.2 hc_63
 refine WC.skip ?_
 refine WQ.out nofun ?_
 refine WQ.next ?_
 refine WC.region ?_
 refine WL.mv rfl rfl ?_
 obtain ⟨hi_62, hV⟩ := hV
 refine WL.run hS rfl rfl rfl (ex_add rfl rfl hi_62) ?_
 refine WL.ma rfl rfl ?_
 refine WL.nil ?_
 exact WQ.there fun a ha => ⟨(k_24 + 1), ⟨(k_24 + 1), rfl, hV.1, hi_62, hS, ha.of_sub ⟨rfl, rfl, rfl, trivial⟩⟩, hV.2⟩
 intro hc_64
 replace hV := hV.2 (of_decide_eq_false hc_64)
 refine WC.exit ?_
 refine WQ.pass nofun ?_
 refine WQ.pass nofun ?_
 refine WQ.hit ?_
 refine WQ.next ?_
 refine WC.sr ?_
 refine WL.ma rfl rfl ?_
 refine WL.nx ?_
 refine WC.ret ?_
 exact leave1 rfl rfl ⟨false, hV, rfl, hS⟩

theorem S_rCount {w0 : World} {H : View} {L : Seg} {w : World} {v_2 : Value} {f_1 : List Bool} {Q : Int → Prop} (h_3 : IsSl H cBool v_2 f_1) (hS : St w0 H (L) w) (hV : V_rCount f_1 Q) :
 Calls Try.prog 43 #[v_2] w fun e w' => ∃ (r1 : Int), Q r1 ∧ e = .returned (i6 r1) ∧ I64 r1 ∧ St w0 H (L) w' := by
 unfold V_rCount at hV
 refine enter Try.func43 rfl Try.ntmps43 rfl (lk_args_cons (d := 0) (v := v_2) rfl (lk_args_nil _)) ?_
 refine WC.sr ?_
 refine WL.ma rfl rfl ?_
 refine WL.nx ?_
 refine WC.sr ?_
 refine WL.ma rfl rfl ?_
 refine WL.nx ?_
 refine WC.seq ?_
 refine WC.sr ?_
 refine WL.ma rfl rfl ?_
 refine WL.nx ?_
 refine WC.block ?_
 obtain ⟨I_58, mu_59, hI_86, hV⟩ := hV
 refine WC.loop (σ := Int × Int) (fun s a w => ∃ (n_29 : Int) (k_31 : Int), s = (n_29, k_31) ∧ I_58 (n_29, k_31) ∧ I64 n_29 ∧ I64 k_31 ∧ St w0 H (L) w ∧ Fr 18 [(0, v_2), (3, i6 n_29), (4, i6 k_31)] a) mu_59 (0, 0) ?_ ?_
 exact fun a ha => ⟨0, 0, rfl, hI_86, (by unfold I64; omega), (by unfold I64; omega), hS, ha.of_sub ⟨rfl, rfl, rfl, trivial⟩⟩
 clear hS hI_86
 rintro _ a w ⟨n_29, k_31, rfl, hI, hr_30, hr_32, hS, ha⟩
 refine in_frame ha ?_
 clear ha
 replace hV := hV _ hI
 clear hI
 refine WC.seq ?_
 refine WC.sr ?_
 refine WL.mv rfl rfl ?_
 refine WL.mv rfl rfl ?_
 have hl_61 : Len f_1 := h_3.bound
 replace hV := hV hl_61
 refine WL.run hS rfl rfl rfl (ex_len_sl Try.underlying28 rfl h_3) ?_
 refine WL.run hS rfl rfl rfl (ex_lss rfl rfl) ?_
 refine WL.nx ?_
 refine WC.cond rfl ?_ ?_
 intro hc_85
 replace hV := hV.1 (of_decide_eq_true hc_85)
 refine WC.skip ?_
 refine WQ.next ?_
 obtain ⟨J_73, hJ_74, hV⟩ := hV
 refine WC.meet (fun a w => ∃ (n_71 : Int), J_73 n_71 ∧ I64 n_71 ∧ St w0 H (L) w ∧ Fr 18 [(0, v_2), (3, i6 n_71), (4, i6 k_31)] a) ?_ ?_
 rintro a w ⟨n_71, hI, hr_72, hS, ha⟩
 refine in_frame ha ?_
 clear ha hV
 have hV := hJ_74 _ hI
 clear hI hJ_74
 refine WC.region ?_
 refine WL.mv rfl rfl ?_
 obtain ⟨hi_84, hV⟩ := hV
 refine WL.run hS rfl rfl rfl (ex_add rfl rfl hi_84) ?_
 refine WL.ma rfl rfl ?_
 refine WL.nil ?_
 exact WQ.there fun a ha => ⟨(n_71, (k_31 + 1)), ⟨n_71, (k_31 + 1), rfl, hV.1, hr_72, hi_84, hS, ha.of_sub ⟨rfl, rfl, rfl, trivial⟩⟩, hV.2⟩
 clear hJ_74
 refine WC.block ?_
 refine WC.sr ?_
 refine WL.mv rfl rfl ?_
 refine WL.mv rfl rfl ?_
 obtain ⟨hin_75, hV⟩ := hV
 refine WL.runx hS rfl rfl rfl (ex_index Try.underlying28 Try.sizeOf4 rfl rfl h_3 hin_75) ?_
 intro p_76 hp_77
 refine WL.runx hS rfl rfl rfl (ex_load Try.isAgg4 rfl rfl hp_77) ?_
 intro u_78 hu_79
 obtain rfl := cBool_rep hu_79
 refine WL.nx ?_
 refine WC.cond rfl ?_ ?_
 intro hc_82
 replace hV := hV.1 hc_82
 refine WC.region ?_
 refine WL.mv rfl rfl ?_
 obtain ⟨hi_81, hV⟩ := hV
 refine WL.run hS rfl rfl rfl (ex_add rfl rfl hi_81) ?_
 refine WL.ma rfl rfl ?_
 refine WL.nil ?_
 refine WQ.out nofun ?_
 exact WQ.there fun a ha => ⟨(n_29 + 1), hV, hi_81, hS, ha.of_sub ⟨rfl, rfl, rfl, trivial⟩⟩
 intro hc_82
 replace hV := hV.2 hc_82
 refine WC.skip ?_
 refine WQ.out nofun ?_
 exact WQ.there fun a ha => ⟨n_29, hV, hr_30, hS, ha.of_sub ⟨rfl, rfl, rfl, trivial⟩⟩
 intro hc_85
 replace hV := hV.2 (of_decide_eq_false hc_85)
 refine WC.exit ?_
 refine WQ.pass nofun ?_
 refine WQ.pass nofun ?_
 refine WQ.hit ?_
 refine WQ.next ?_
 refine WC.sr ?_
 refine WL.mv rfl rfl ?_
 refine WL.ma rfl rfl ?_
 refine WL.nx ?_
 refine WC.ret ?_
 exact leave1 rfl rfl ⟨n_29, hV, rfl, hr_30, hS⟩

theorem S_rFirst {w0 : World} {H : View} {L : Seg} {w : World} {n_1 : Int} {v_4 : Value} {f_3 : List Bool} {Q : (List Bool) → Bool → Prop} (hr_2 : I64 n_1) (h_5 : IsSl H cBool v_4 f_3) (hS : St w0 H (L) w) (hV : V_rFirst n_1 f_3 Q) :
 Calls Try.prog 45 #[i6 n_1, v_4] w fun e w' => ∃ (r1 : List Bool) (r2 : Bool) (v1 : Value) (fp1 : Seg), Q r1 r2 ∧ e = .returned (.tuple #[v1, .bool r2]) ∧ OwnSl H cBool 4 v1 r1 fp1 ∧ St w0 H (fp1 ++ L) w' := by
 unfold V_rFirst at hV
 refine enter Try.func45 rfl Try.ntmps45 rfl (lk_args_cons (d := 0) (v := i6 n_1) rfl (lk_args_cons (d := 1) (v := v_4) rfl (lk_args_nil _))) ?_
 refine WC.sr ?_
 refine WL.ma rfl rfl ?_
 refine WL.ma rfl rfl ?_
 refine WL.nx ?_
 refine WC.sr ?_
 refine WL.mv rfl rfl ?_
 refine WL.call rfl rfl rfl (enters0 (vs := [v_4]) Try.call43 ⟨rfl, trivial⟩) (S_rCount  h_5 hS hV) ?_
 clear hV hS
 rintro _ w ⟨r_7, hV, rfl, hr_8, hS⟩
 refine ⟨_, rfl, ?_⟩
 refine WL.ma rfl rfl ?_
 refine WL.nx ?_
 refine WC.seq ?_
 refine WC.sr ?_
 refine WL.mv rfl rfl ?_
 refine WL.run hS rfl rfl rfl (ex_eql rfl rfl) ?_
 refine WL.nx ?_
 refine WC.cond rfl ?_ ?_
 intro hc_230
 replace hV := hV.1 (of_decide_eq_true hc_230)
 refine WC.sr ?_
 refine WL.ma rfl rfl ?_
 refine WL.ma rfl rfl ?_
 refine WL.nx ?_
 refine WC.ret ?_
 refine WQ.pass nofun ?_
 replace hS := hS.nilseg
 exact leave2 rfl rfl rfl ⟨([] : List Bool), false, (.slice none 0 0), ([] : Seg), hV, rfl, OwnSl.nil, hS⟩
 intro hc_230
 replace hV := hV.2 (of_decide_eq_false hc_230)
 refine WC.skip ?_
 refine WQ.next ?_
 refine WC.sr ?_
 refine WL.ma rfl rfl ?_
 refine WL.nx ?_
 refine WC.seq ?_
 refine WC.sr ?_
 refine WL.ma rfl rfl ?_
 refine WL.nx ?_
 refine WC.block ?_
 replace hS := hS.nilseg
 obtain ⟨I_176, mu_177, hI_229, hV⟩ := hV
 refine WC.loop (σ := (List Bool) × (List Bool) × Int) (fun s a w => ∃ (f_119 : List Bool) (l_123 : List Bool) (i_127 : Int) (H_117 : View) (v_120 : Value) (v_124 : Value) (fp_125 : Seg), s = (f_119, l_123, i_127) ∧ I_176 (f_119, l_123, i_127) ∧ View.le H H_117 ∧ IsSl H_117 cBool v_120 f_119 ∧ OwnSl H_117 cBool 4 v_124 l_123 fp_125 ∧ I64 i_127 ∧ St w0 H_117 (fp_125 ++ L) w ∧ Fr 37 [(0, i6 n_1), (1, v_120), (7, v_124), (8, i6 i_127)] a) mu_177 (f_3, ([] : List Bool), 0) ?_ ?_
 exact fun a ha => ⟨f_3, ([] : List Bool), 0, H, v_4, (.slice none 0 0), ([] : Seg), rfl, hI_229, (View.le.refl _), h_5, OwnSl.nil, (by unfold I64; omega), hS, ha.of_sub ⟨rfl, rfl, rfl, rfl, trivial⟩⟩
 clear hS hI_229
 rintro _ a w ⟨f_119, l_123, i_127, H_117, v_120, v_124, fp_125, rfl, hI, le_118, h_121, h_126, hr_128, hS, ha⟩
 refine in_frame ha ?_
 clear ha
 replace hV := hV _ hI
 clear hI
 refine WC.seq ?_
 refine WC.sr ?_
 refine WL.mv rfl rfl ?_
 refine WL.mv rfl rfl ?_
 refine WL.run hS rfl rfl rfl (ex_lss rfl rfl) ?_
 refine WL.nx ?_
 refine WC.cond rfl ?_ ?_
 intro hc_228
 replace hV := hV.1 (of_decide_eq_true hc_228)
 refine WC.skip ?_
 refine WQ.next ?_
 refine WC.seq ?_
 refine WC.block ?_
 refine WC.sr ?_
 refine WL.mv rfl rfl ?_
 refine WL.mv rfl rfl ?_
 refine WL.call rfl rfl rfl (enters0 (vs := [v_120, i6 i_127, .bool false]) Try.call70 ⟨rfl, rfl, rfl, trivial⟩) (S_rWith  h_121 hr_128 hS hV) ?_
 clear hV hS
 rintro _ w ⟨r_180, v_181, fp_182, hV, rfl, h_183, hS⟩
 refine ⟨_, rfl, ?_⟩
 refine WL.ma rfl rfl ?_
 refine WL.nx ?_
 refine WC.sr ?_
 refine WL.mv rfl rfl ?_
 have hL_186 := hS.freeze
 refine WL.call rfl rfl rfl (enters0 (vs := [v_181]) Try.call43 ⟨rfl, trivial⟩) (S_rCount  (h_183.share hS.put_le) hL_186 hV) ?_
 clear hV
 rintro _ w ⟨r_187, hV, rfl, hr_188, hL_189⟩
 refine ⟨_, rfl, ?_⟩
 have hB_191 := hS.back hL_189
 replace hS := hB_191
 clear hL_189 hL_186 hB_191
 refine WL.ma rfl rfl ?_
 refine WL.nx ?_
 refine WC.sr ?_
 refine WL.mv rfl rfl ?_
 refine WL.run hS rfl rfl rfl (ex_eql rfl rfl) ?_
 refine WL.ma rfl rfl ?_
 refine WL.nx ?_
 refine WC.sub (m := [(0, i6 n_1), (1, v_120), (7, v_124), (8, i6 i_127), (9, v_181), (10, .bool (decide (r_187 = 0)))]) ⟨rfl, rfl, rfl, rfl, rfl, rfl, trivial⟩ ?_
 obtain ⟨J_205, hJ_206, hV⟩ := hV
 refine WC.meet (fun a w => ∃ (g_201 : List Bool) (v_202 : Value) (fp_203 : Seg), J_205 g_201 ∧ OwnSl H_117 cBool 4 v_202 g_201 fp_203 ∧ St w0 H_117 (fp_125 ++ (fp_203 ++ L)) w ∧ Fr 37 [(0, i6 n_1), (7, v_124), (8, i6 i_127), (9, v_202), (10, .bool (decide (r_187 = 0)))] a) ?_ ?_
 rintro a w ⟨g_201, v_202, fp_203, hI, h_204, hS, ha⟩
 refine in_frame ha ?_
 clear ha hV
 have hV := hJ_206 _ hI
 clear hI hJ_206
 refine WC.sr ?_
 refine WL.mv rfl rfl ?_
 refine WL.ma rfl rfl ?_
 refine WL.nx ?_
 refine WC.region ?_
 refine WL.mv rfl rfl ?_
 refine WL.mv rfl rfl ?_
 refine WL.build1 (c := cBool) rfl Try.underlying28 Try.info4 rfl rfl cBool_mk hS ?_
 clear hS
 intro v_215 w fp_216 h_217 hS
 obtain ⟨hr_218, hV⟩ := hV
 replace hS := hS.f2
 refine WL.append (c := cBool) (xs := l_123) (ys := ([decide (r_187 = 0)])) rfl Try.underlying28 Try.info4 rfl rfl rfl hS h_126 (h_217.src hS.f2) hr_218.1 hr_218.2 ?_
 clear hS
 intro v_219 w fp_220 h_221 hS
 refine WL.ma rfl rfl ?_
 refine WL.nil ?_
 refine WQ.out nofun ?_
 refine WQ.next ?_
 replace hS := hS.f2.drop
 refine WC.region ?_
 refine WL.mv rfl rfl ?_
 obtain ⟨hi_224, hV⟩ := hV
 refine WL.run hS rfl rfl rfl (ex_add rfl rfl hi_224) ?_
 refine WL.ma rfl rfl ?_
 refine WL.nil ?_
 replace hS := hS.f2
 obtain ⟨H_225, le_226, h_227, hS⟩ : ∃ K, View.le H_117 K ∧ IsSl K cBool v_202 g_201 ∧ St w0 K (fp_220 ++ L) w := ⟨_, hS.put_le, h_204.share hS.put_le, hS.freeze⟩
 exact WQ.there fun a ha => ⟨(g_201, (l_123 ++ ([decide (r_187 = 0)])), (i_127 + 1)), ⟨g_201, (l_123 ++ ([decide (r_187 = 0)])), (i_127 + 1), H_225, v_202, v_219, fp_220, rfl, hV.1, (((View.le.refl _).trans le_118).trans le_226), h_227, (h_221.mono le_226), hi_224, hS, ha.of_sub ⟨rfl, rfl, rfl, rfl, trivial⟩⟩, hV.2⟩
 clear hJ_206
 refine WC.sr ?_
 refine WL.mv rfl rfl ?_
 refine WL.nx ?_
 refine WC.cond rfl ?_ ?_
 intro hc_213
 replace hV := hV.1 (of_decide_eq_true hc_213)
 refine WC.region ?_
 refine WL.mv rfl rfl ?_
 refine WL.mv rfl rfl ?_
 refine WL.call rfl rfl rfl (enters0 (vs := [v_120, i6 i_127, .bool true]) Try.call70 ⟨rfl, rfl, rfl, trivial⟩) (S_rWith  h_121 hr_128 hS hV) ?_
 clear hV hS
 rintro _ w ⟨r_207, v_208, fp_209, hV, rfl, h_210, hS⟩
 refine ⟨_, rfl, ?_⟩
 refine WL.ma rfl rfl ?_
 refine WL.nil ?_
 replace hS := hS.f2.drop
 replace hS := hS.f2
 exact WQ.there fun a ha => ⟨r_207, v_208, fp_209, hV, h_210, hS, ha.of_sub ⟨rfl, rfl, rfl, rfl, rfl, trivial⟩⟩
 intro hc_213
 replace hV := hV.2 (of_decide_eq_false hc_213)
 refine WC.skip ?_
 replace hS := hS.f2
 exact WQ.there fun a ha => ⟨r_180, v_181, fp_182, hV, h_183, hS, ha.of_sub ⟨rfl, rfl, rfl, rfl, rfl, trivial⟩⟩
 intro hc_228
 replace hV := hV.2 (of_decide_eq_false hc_228)
 refine WC.exit ?_
 refine WQ.pass nofun ?_
 refine WQ.pass nofun ?_
 refine WQ.hit ?_
 refine WQ.next ?_
 refine WC.sr ?_
 refine WL.mv rfl rfl ?_
 refine WL.ma rfl rfl ?_
 refine WL.ma rfl rfl ?_
 refine WL.nx ?_
 refine WC.ret ?_
 exact leave2 rfl rfl rfl ⟨l_123, true, v_124, fp_125, hV, rfl, (rep_own h_126 (fun _ _ h => h)), (hS.weaken ((View.le.refl _).trans le_118))⟩

theorem S_joined {w0 : World} {H : View} {L : Seg} {w : World} {v_2 : Value} {row_1 : B2} {fp_4 : Seg} {v_7 : Value} {more_6 : B2} {Q : B2 → Prop} (h_3 : OwnSl H (cSl cBool) 28 v_2 row_1 fp_4) (h_8 : IsSl H (cSl cBool) v_7 more_6) (hS : St w0 H (fp_4 ++ L) w) (hV : V_joined row_1 more_6 Q) :
 Calls Try.prog 77 #[v_2, v_7] w fun e w' => ∃ (r1 : B2) (v1 : Value) (fp1 : Seg), Q r1 ∧ e = .returned (v1) ∧ OwnSl H (cSl cBool) 28 v1 r1 fp1 ∧ St w0 H (fp1 ++ L) w' := by
 unfold V_joined at hV
 refine enter Try.func77 rfl Try.ntmps77 rfl (lk_args_cons (d := 0) (v := v_2) rfl (lk_args_cons (d := 1) (v := v_7) rfl (lk_args_nil _))) ?_
 refine WC.sr ?_
 refine WL.ma rfl rfl ?_
 refine WL.nx ?_
 refine WC.seq ?_
 refine WC.sr ?_
 refine WL.ma rfl rfl ?_
 refine WL.nx ?_
 refine WC.block ?_
 obtain ⟨I_585, mu_586, hI_872, hV⟩ := hV
 refine WC.loop (σ := B2 × Int) (fun s a w => ∃ (row_295 : B2) (i_299 : Int) (v_296 : Value) (fp_297 : Seg), s = (row_295, i_299) ∧ I_585 (row_295, i_299) ∧ OwnSl H (cSl cBool) 28 v_296 row_295 fp_297 ∧ I64 i_299 ∧ St w0 H (fp_297 ++ L) w ∧ Fr 43 [(0, v_296), (1, v_7), (5, i6 i_299)] a) mu_586 (row_1, 0) ?_ ?_
 exact fun a ha => ⟨row_1, 0, v_2, fp_4, rfl, hI_872, h_3, (by unfold I64; omega), hS, ha.of_sub ⟨rfl, rfl, rfl, trivial⟩⟩
 clear hS hI_872
 rintro _ a w ⟨row_295, i_299, v_296, fp_297, rfl, hI, h_298, hr_300, hS, ha⟩
 refine in_frame ha ?_
 clear ha
 replace hV := hV _ hI
 clear hI
 refine WC.seq ?_
 refine WC.sr ?_
 refine WL.mv rfl rfl ?_
 refine WL.mv rfl rfl ?_
 have hl_588 : Len more_6 := h_8.bound
 replace hV := hV hl_588
 refine WL.run hS rfl rfl rfl (ex_len_sl Try.underlying37 rfl h_8) ?_
 refine WL.run hS rfl rfl rfl (ex_lss rfl rfl) ?_
 refine WL.nx ?_
 refine WC.cond rfl ?_ ?_
 intro hc_871
 replace hV := hV.1 (of_decide_eq_true hc_871)
 refine WC.skip ?_
 refine WQ.next ?_
 obtain ⟨J_731, hJ_732, hV⟩ := hV
 refine WC.meet (fun a w => ∃ (row_727 : B2) (v_728 : Value) (fp_729 : Seg), J_731 row_727 ∧ OwnSl H (cSl cBool) 28 v_728 row_727 fp_729 ∧ St w0 H (fp_729 ++ L) w ∧ Fr 43 [(0, v_728), (1, v_7), (5, i6 i_299)] a) ?_ ?_
 rintro a w ⟨row_727, v_728, fp_729, hI, h_730, hS, ha⟩
 refine in_frame ha ?_
 clear ha hV
 have hV := hJ_732 _ hI
 clear hI hJ_732
 refine WC.region ?_
 refine WL.mv rfl rfl ?_
 obtain ⟨hi_870, hV⟩ := hV
 refine WL.run hS rfl rfl rfl (ex_add rfl rfl hi_870) ?_
 refine WL.ma rfl rfl ?_
 refine WL.nil ?_
 exact WQ.there fun a ha => ⟨(row_727, (i_299 + 1)), ⟨row_727, (i_299 + 1), v_728, fp_729, rfl, hV.1, h_730, hi_870, hS, ha.of_sub ⟨rfl, rfl, rfl, trivial⟩⟩, hV.2⟩
 clear hJ_732
 refine WC.block ?_
 refine WC.sr ?_
 refine WL.ma rfl rfl ?_
 refine WL.nx ?_
 refine WC.seq ?_
 refine WC.sr ?_
 refine WL.ma rfl rfl ?_
 refine WL.nx ?_
 refine WC.block ?_
 obtain ⟨I_812, mu_813, hI_868, hV⟩ := hV
 refine WC.loop (σ := Bool × Int) (fun s a w => ∃ (there_771 : Bool) (k_772 : Int), s = (there_771, k_772) ∧ I_812 (there_771, k_772) ∧ I64 k_772 ∧ St w0 H (fp_297 ++ L) w ∧ Fr 43 [(0, v_296), (1, v_7), (5, i6 i_299), (6, .bool there_771), (7, i6 k_772)] a) mu_813 (false, 0) ?_ ?_
 exact fun a ha => ⟨false, 0, rfl, hI_868, (by unfold I64; omega), hS, ha.of_sub ⟨rfl, rfl, rfl, rfl, rfl, trivial⟩⟩
 clear hS hI_868
 rintro _ a w ⟨there_771, k_772, rfl, hI, hr_773, hS, ha⟩
 refine in_frame ha ?_
 clear ha
 replace hV := hV _ hI
 clear hI
 refine WC.seq ?_
 refine WC.seq ?_
 have hl_815 : Len row_295 := h_298.bound
 replace hV := hV hl_815
 refine WC.via (m := [(0, v_296), (1, v_7), (5, i6 i_299), (6, .bool there_771), (7, i6 k_772), (21, .bool (decide ((k_772 < (row_295.length : Int)) ∧ ((!there_771) = true))))]) ?_ ?_
 refine WC.region ?_
 refine WL.mv rfl rfl ?_
 refine WL.mv rfl rfl ?_
 refine WL.run hS rfl rfl rfl (ex_len_own Try.underlying37 rfl h_298) ?_
 refine WL.run hS rfl rfl rfl (ex_lss rfl rfl) ?_
 refine WL.mv rfl rfl ?_
 rcases Bool.eq_false_or_eq_true (decide (k_772 < (row_295.length : Int))) with hg_819 | hg_819
 refine WL.unguard rfl rfl hg_819 ?_
 refine WL.mv rfl rfl ?_
 refine WL.unguard rfl rfl hg_819 ?_
 refine WL.run hS rfl rfl rfl (ex_not rfl) ?_
 refine WL.run hS rfl rfl rfl (ex_pick_t rfl hg_819 rfl) ?_
 refine WL.sub (m := [(0, v_296), (1, v_7), (5, i6 i_299), (6, .bool there_771), (7, i6 k_772), (14, i6 k_772), (15, v_296), (16, i6 (row_295.length : Int)), (17, .bool (decide (k_772 < (row_295.length : Int)))), (18, .bool (decide (k_772 < (row_295.length : Int)))), (19, .bool there_771), (20, .bool (!there_771)), (21, .bool (decide ((k_772 < (row_295.length : Int)) ∧ ((!there_771) = true))))]) ⟨rfl, rfl, rfl, rfl, rfl, rfl, rfl, rfl, rfl, rfl, rfl, rfl, congrArg (fun b => some (Value.bool b)) ((dec_true _).trans (and_t hg_819 : decide ((!there_771) = true) = decide ((k_772 < (row_295.length : Int)) ∧ ((!there_771) = true)))), trivial⟩ ?_
 exact WL.nil (At.of ⟨rfl, rfl, rfl, rfl, rfl, rfl, trivial⟩)
 refine WL.skip_g rfl rfl rfl hg_819 rfl rfl ?_
 refine WL.skip_g rfl rfl rfl hg_819 rfl rfl ?_
 refine WL.run hS rfl rfl rfl (ex_pick_f rfl hg_819 rfl) ?_
 refine WL.sub (m := [(0, v_296), (1, v_7), (5, i6 i_299), (6, .bool there_771), (7, i6 k_772), (14, i6 k_772), (15, v_296), (16, i6 (row_295.length : Int)), (17, .bool (decide (k_772 < (row_295.length : Int)))), (18, .bool (decide (k_772 < (row_295.length : Int)))), (19, undef), (20, undef), (21, .bool (decide ((k_772 < (row_295.length : Int)) ∧ ((!there_771) = true))))]) ⟨rfl, rfl, rfl, rfl, rfl, rfl, rfl, rfl, rfl, rfl, rfl, rfl, congrArg (fun b => some (Value.bool b)) (and_f hg_819 : false = decide ((k_772 < (row_295.length : Int)) ∧ ((!there_771) = true))), trivial⟩ ?_
 exact WL.nil (At.of ⟨rfl, rfl, rfl, rfl, rfl, rfl, trivial⟩)
 refine WQ.next ?_
 refine WC.cond rfl ?_ ?_
 intro hc_867
 replace hV := hV.1 (of_decide_eq_true hc_867)
 refine WC.skip ?_
 refine WQ.next ?_
 refine WC.seq ?_
 refine WC.block ?_
 refine WC.drawn (σ := [0, 1, 2, 3, 4, 5, 6, 7, 8, 9]) (C := St w0 H (fp_297 ++ L)) [[], [], [0, 1], [0, 1, 2], [], [], [4, 5], [4, 5, 6], [0, 1, 2, 3, 4, 5, 6, 7], [0, 1, 2, 3, 4, 5, 6, 7, 8]] [8] Try.mixed (by kernel_rfl) (hS.drawn _) ?_
 clear hS w
 refine Wd.run rfl rfl rfl rfl (fun _ => ex_move rfl) fun q_821 hq_820 => ?_
 refine Wd.run rfl rfl rfl rfl (fun _ => ex_move rfl) fun q_823 hq_822 => ?_
 obtain ⟨hin_826, hV⟩ := hV
 refine Wd.runx rfl rfl rfl rfl (exAll (ex_index_own Try.underlying37 Try.sizeOf28 rfl rfl h_298 hin_826)) ?_
 intro p_827 hp_828
 intro q_825 hq_824
 refine Wd.runs (fp := fp_297) rfl rfl rfl rfl (ex_load_own_s Try.isAgg28 rfl rfl h_298 hp_828 hin_826) (fun _ h => h) ?_
 intro u_831 hu_832
 replace hu_832 := cSl_rep hu_832
 intro q_830 hq_829
 refine Wd.run rfl rfl rfl rfl (fun _ => ex_move rfl) fun q_834 hq_833 => ?_
 refine Wd.run rfl rfl rfl rfl (fun _ => ex_move rfl) fun q_836 hq_835 => ?_
 obtain ⟨hin_839, hV⟩ := hV
 refine Wd.runx rfl rfl rfl rfl (exAll (ex_index Try.underlying37 Try.sizeOf28 rfl rfl h_8 hin_839)) ?_
 intro p_840 hp_841
 intro q_838 hq_837
 refine Wd.runs (fp := ([] : Seg)) (L := fp_297 ++ L) rfl rfl rfl rfl (ex_load_s Try.isAgg28 rfl rfl hp_841) (fun _ h => h) ?_
 intro u_844 hu_845
 replace hu_845 := cSl_rep hu_845
 intro q_843 hq_842
 refine Wd.turn rfl rfl rfl fun w hS => ?_
 refine WL.call rfl rfl rfl (enters0 (vs := [u_831, u_844]) Try.call41 ⟨rfl, rfl, trivial⟩) (S_rSame  hu_832 hu_845 hS hV) ?_
 clear hV hS
 rintro _ w ⟨r_846, hV, rfl, hS⟩
 refine ⟨_, rfl, ?_⟩
 refine WL.nil (DQ.mk2 (C' := St w0 H (fp_297 ++ L)) hS ⟨il, il, il, il, il, il, il, il, trivial⟩ ?_)
 clear hS w
 refine Wd.run rfl rfl rfl rfl (fun _ => ex_assign rfl) fun q_849 hq_848 => ?_
 refine Wd.nil fun w hS => ?_
 refine WQ.out nofun ?_
 refine WQ.next ?_
 refine WC.sub (m := [(0, v_296), (1, v_7), (5, i6 i_299), (6, .bool r_846), (7, i6 k_772)]) ⟨rfl, rfl, rfl, rfl, rfl, trivial⟩ ?_
 refine WC.region ?_
 refine WL.mv rfl rfl ?_
 obtain ⟨hi_851, hV⟩ := hV
 refine WL.run hS rfl rfl rfl (ex_add rfl rfl hi_851) ?_
 refine WL.ma rfl rfl ?_
 refine WL.nil ?_
 exact WQ.there fun a ha => ⟨(r_846, (k_772 + 1)), ⟨r_846, (k_772 + 1), rfl, hV.1, hi_851, hS, ha.of_sub ⟨rfl, rfl, rfl, rfl, rfl, trivial⟩⟩, hV.2⟩
 intro hc_867
 replace hV := hV.2 (of_decide_eq_false hc_867)
 refine WC.exit ?_
 refine WQ.pass nofun ?_
 refine WQ.pass nofun ?_
 refine WQ.hit ?_
 refine WQ.next ?_
 refine WC.sr ?_
 refine WL.mv rfl rfl ?_
 refine WL.run hS rfl rfl rfl (ex_not rfl) ?_
 refine WL.nx ?_
 refine WC.cond rfl ?_ ?_
 intro hc_866
 replace hV := hV.1 hc_866
 refine WC.region ?_
 refine WL.mv rfl rfl ?_
 refine WL.mv rfl rfl ?_
 refine WL.mv rfl rfl ?_
 obtain ⟨hin_852, hV⟩ := hV
 refine WL.runx hS rfl rfl rfl (ex_index Try.underlying37 Try.sizeOf28 rfl rfl h_8 hin_852) ?_
 intro p_853 hp_854
 refine WL.runx hS rfl rfl rfl (ex_load Try.isAgg28 rfl rfl hp_854) ?_
 intro u_855 hu_856
 replace hu_856 := cSl_rep hu_856
 refine WL.build1 (c := (cSl cBool)) rfl Try.underlying37 Try.info28 rfl rfl (cSl_mk hu_856) hS ?_
 clear hS
 intro v_858 w fp_859 h_860 hS
 obtain ⟨hr_861, hV⟩ := hV
 replace hS := hS.f2
 refine WL.append (c := (cSl cBool)) (xs := row_295) (ys := ([(ix more_6 i_299)])) rfl Try.underlying37 Try.info28 rfl rfl rfl hS h_298 (h_860.src hS.f2) hr_861.1 hr_861.2 ?_
 clear hS
 intro v_862 w fp_863 h_864 hS
 refine WL.ma rfl rfl ?_
 refine WL.nil ?_
 refine WQ.out nofun ?_
 replace hS := hS.f2.drop
 exact WQ.there fun a ha => ⟨(row_295 ++ ([(ix more_6 i_299)])), v_862, fp_863, hV, h_864, hS, ha.of_sub ⟨rfl, rfl, rfl, trivial⟩⟩
 intro hc_866
 replace hV := hV.2 hc_866
 refine WC.skip ?_
 refine WQ.out nofun ?_
 exact WQ.there fun a ha => ⟨row_295, v_296, fp_297, hV, h_298, hS, ha.of_sub ⟨rfl, rfl, rfl, trivial⟩⟩
 intro hc_871
 replace hV := hV.2 (of_decide_eq_false hc_871)
 refine WC.exit ?_
 refine WQ.pass nofun ?_
 refine WQ.pass nofun ?_
 refine WQ.hit ?_
 refine WQ.next ?_
 refine WC.sr ?_
 refine WL.mv rfl rfl ?_
 refine WL.ma rfl rfl ?_
 refine WL.nx ?_
 refine WC.ret ?_
 exact leave1 rfl rfl ⟨row_295, v_296, fp_297, hV, rfl, h_298, hS⟩

theorem S_Asked {w0 : World} {H : View} {L : Seg} {w : World} {v_2 : Value} {fs_1 : B2} {v_5 : Value} {order_4 : LI} {Q : LI → Prop} (h_3 : IsSl H (cSl cBool) v_2 fs_1) (h_6 : IsSl H (cInt .i64) v_5 order_4) (hS : St w0 H (L) w) (hV : V_Asked fs_1 order_4 Q) :
 Calls Try.prog 59 #[v_2, v_5] w fun e w' => ∃ (r1 : LI) (v1 : Value) (fp1 : Seg), Q r1 ∧ e = .returned (v1) ∧ OwnSl H (cInt .i64) 3 v1 r1 fp1 ∧ St w0 H (fp1 ++ L) w' := by
 unfold V_Asked at hV
 refine enter Try.func59 rfl Try.ntmps59 rfl (lk_args_cons (d := 0) (v := v_2) rfl (lk_args_cons (d := 1) (v := v_5) rfl (lk_args_nil _))) ?_
 refine WC.sr ?_
 refine WL.ma rfl rfl ?_
 refine WL.nx ?_
 refine WC.sr ?_
 refine WL.ma rfl rfl ?_
 refine WL.nx ?_
 refine WC.sr ?_
 refine WL.ma rfl rfl ?_
 refine WL.nx ?_
 refine WC.sr ?_
 refine WL.mv rfl rfl ?_
 refine WL.mv rfl rfl ?_
 replace hS := hS.nilseg
 refine WL.call rfl rfl rfl (enters0 (vs := [(.slice none 0 0), v_2]) Try.call77 ⟨rfl, rfl, trivial⟩) (S_joined  OwnSl.nil h_3 hS hV) ?_
 clear hV hS
 rintro _ w ⟨r_10, v_11, fp_12, hV, rfl, h_13, hS⟩
 refine ⟨_, rfl, ?_⟩
 refine WL.ma rfl rfl ?_
 refine WL.nx ?_
 refine WC.seq ?_
 refine WC.sr ?_
 refine WL.ma rfl rfl ?_
 refine WL.nx ?_
 refine WC.block ?_
 replace hS := hS.nilseg
 replace hS := hS.f2
 obtain ⟨I_2069, mu_2070, hI_2751, hV⟩ := hV
 refine WC.loop (σ := B2 × LI × Int) (fun s a w => ∃ (row_1379 : B2) (ask_1384 : LI) (k_1388 : Int) (H_1376 : View) (v_1380 : Value) (fp_1381 : Seg) (v_1385 : Value) (fp_1386 : Seg), s = (row_1379, ask_1384, k_1388) ∧ I_2069 (row_1379, ask_1384, k_1388) ∧ View.le H H_1376 ∧ OwnSl H_1376 (cSl cBool) 28 v_1380 row_1379 fp_1381 ∧ OwnSl H_1376 (cInt .i64) 3 v_1385 ask_1384 fp_1386 ∧ I64 k_1388 ∧ St w0 H_1376 (fp_1381 ++ (fp_1386 ++ L)) w ∧ Fr 70 [(1, v_5), (5, v_1380), (6, v_1385), (7, i6 k_1388)] a) mu_2070 (r_10, ([] : LI), 0) ?_ ?_
 exact fun a ha => ⟨r_10, ([] : LI), 0, H, v_11, fp_12, (.slice none 0 0), ([] : Seg), rfl, hI_2751, (View.le.refl _), h_13, OwnSl.nil, (by unfold I64; omega), hS, ha.of_sub ⟨rfl, rfl, rfl, rfl, trivial⟩⟩
 clear hS hI_2751
 rintro _ a w ⟨row_1379, ask_1384, k_1388, H_1376, v_1380, fp_1381, v_1385, fp_1386, rfl, hI, le_1377, h_1382, h_1387, hr_1389, hS, ha⟩
 refine in_frame ha ?_
 clear ha
 replace hV := hV _ hI
 clear hI
 refine WC.seq ?_
 refine WC.sr ?_
 refine WL.mv rfl rfl ?_
 refine WL.mv rfl rfl ?_
 have hl_2072 : Len row_1379 := h_1382.bound
 replace hV := hV hl_2072
 refine WL.run hS rfl rfl rfl (ex_len_own Try.underlying37 rfl h_1382) ?_
 refine WL.run hS rfl rfl rfl (ex_lss rfl rfl) ?_
 refine WL.nx ?_
 refine WC.cond rfl ?_ ?_
 intro hc_2750
 replace hV := hV.1 (of_decide_eq_true hc_2750)
 refine WC.skip ?_
 refine WQ.next ?_
 obtain ⟨J_2416, hJ_2417, hV⟩ := hV
 refine WC.meet (fun a w => ∃ (row_2407 : B2) (ask_2412 : LI) (H_2404 : View) (v_2408 : Value) (fp_2409 : Seg) (v_2413 : Value) (fp_2414 : Seg), J_2416 (row_2407, ask_2412) ∧ View.le H_1376 H_2404 ∧ OwnSl H_2404 (cSl cBool) 28 v_2408 row_2407 fp_2409 ∧ OwnSl H_2404 (cInt .i64) 3 v_2413 ask_2412 fp_2414 ∧ St w0 H_2404 (fp_2409 ++ (fp_2414 ++ L)) w ∧ Fr 70 [(1, v_5), (5, v_2408), (6, v_2413), (7, i6 k_1388)] a) ?_ ?_
 rintro a w ⟨row_2407, ask_2412, H_2404, v_2408, fp_2409, v_2413, fp_2414, hI, le_2405, h_2410, h_2415, hS, ha⟩
 refine in_frame ha ?_
 clear ha hV
 have hV := hJ_2417 _ hI
 clear hI hJ_2417
 refine WC.region ?_
 refine WL.mv rfl rfl ?_
 obtain ⟨hi_2749, hV⟩ := hV
 refine WL.run hS rfl rfl rfl (ex_add rfl rfl hi_2749) ?_
 refine WL.ma rfl rfl ?_
 refine WL.nil ?_
 replace hS := hS.f2.f2
 exact WQ.there fun a ha => ⟨(row_2407, ask_2412, (k_1388 + 1)), ⟨row_2407, ask_2412, (k_1388 + 1), H_2404, v_2408, fp_2409, v_2413, fp_2414, rfl, hV.1, (((View.le.refl _).trans le_1377).trans le_2405), h_2410, h_2415, hi_2749, hS, ha.of_sub ⟨rfl, rfl, rfl, rfl, trivial⟩⟩, hV.2⟩
 clear hJ_2417
 refine WC.block ?_
 refine WC.sr ?_
 refine WL.ma rfl rfl ?_
 refine WL.nx ?_
 refine WC.seq ?_
 refine WC.sr ?_
 refine WL.ma rfl rfl ?_
 refine WL.nx ?_
 refine WC.block ?_
 replace hS := hS.f2.f2
 obtain ⟨I_2602, mu_2603, hI_2747, hV⟩ := hV
 refine WC.loop (σ := Int × Int) (fun s a w => ∃ (xat_2508 : Int) (i_2510 : Int), s = (xat_2508, i_2510) ∧ I_2602 (xat_2508, i_2510) ∧ I64 xat_2508 ∧ I64 i_2510 ∧ St w0 H_1376 (fp_1381 ++ (fp_1386 ++ L)) w ∧ Fr 70 [(1, v_5), (5, v_1380), (6, v_1385), (7, i6 k_1388), (8, i6 xat_2508), (9, i6 i_2510)] a) mu_2603 ((-1), 0) ?_ ?_
 exact fun a ha => ⟨(-1), 0, rfl, hI_2747, (by unfold I64; omega), (by unfold I64; omega), hS, ha.of_sub ⟨rfl, rfl, rfl, rfl, rfl, rfl, trivial⟩⟩
 clear hS hI_2747
 rintro _ a w ⟨xat_2508, i_2510, rfl, hI, hr_2509, hr_2511, hS, ha⟩
 refine in_frame ha ?_
 clear ha
 replace hV := hV _ hI
 clear hI
 refine WC.seq ?_
 refine WC.seq ?_
 have hl_2605 : Len order_4 := (h_6.mono le_1377).bound
 replace hV := hV hl_2605
 refine WC.via (m := [(1, v_5), (5, v_1380), (6, v_1385), (7, i6 k_1388), (8, i6 xat_2508), (9, i6 i_2510), (29, .bool (decide ((i_2510 < (order_4.length : Int)) ∧ (xat_2508 < 0))))]) ?_ ?_
 refine WC.region ?_
 refine WL.mv rfl rfl ?_
 refine WL.mv rfl rfl ?_
 refine WL.run hS rfl rfl rfl (ex_len_sl Try.underlying27 rfl (h_6.mono le_1377)) ?_
 refine WL.run hS rfl rfl rfl (ex_lss rfl rfl) ?_
 refine WL.mv rfl rfl ?_
 rcases Bool.eq_false_or_eq_true (decide (i_2510 < (order_4.length : Int))) with hg_2610 | hg_2610
 refine WL.unguard rfl rfl hg_2610 ?_
 refine WL.mv rfl rfl ?_
 refine WL.unguard rfl rfl hg_2610 ?_
 refine WL.run hS rfl rfl rfl (ex_lss rfl rfl) ?_
 refine WL.run hS rfl rfl rfl (ex_pick_t rfl hg_2610 rfl) ?_
 refine WL.sub (m := [(1, v_5), (5, v_1380), (6, v_1385), (7, i6 k_1388), (8, i6 xat_2508), (9, i6 i_2510), (22, i6 i_2510), (23, v_5), (24, i6 (order_4.length : Int)), (25, .bool (decide (i_2510 < (order_4.length : Int)))), (26, .bool (decide (i_2510 < (order_4.length : Int)))), (27, i6 xat_2508), (28, .bool (decide (xat_2508 < 0))), (29, .bool (decide ((i_2510 < (order_4.length : Int)) ∧ (xat_2508 < 0))))]) ⟨rfl, rfl, rfl, rfl, rfl, rfl, rfl, rfl, rfl, rfl, rfl, rfl, rfl, congrArg (fun b => some (Value.bool b)) (and_t hg_2610 : decide (xat_2508 < 0) = decide ((i_2510 < (order_4.length : Int)) ∧ (xat_2508 < 0))), trivial⟩ ?_
 exact WL.nil (At.of ⟨rfl, rfl, rfl, rfl, rfl, rfl, rfl, trivial⟩)
 refine WL.skip_g rfl rfl rfl hg_2610 rfl rfl ?_
 refine WL.skip_g rfl rfl rfl hg_2610 rfl rfl ?_
 refine WL.run hS rfl rfl rfl (ex_pick_f rfl hg_2610 rfl) ?_
 refine WL.sub (m := [(1, v_5), (5, v_1380), (6, v_1385), (7, i6 k_1388), (8, i6 xat_2508), (9, i6 i_2510), (22, i6 i_2510), (23, v_5), (24, i6 (order_4.length : Int)), (25, .bool (decide (i_2510 < (order_4.length : Int)))), (26, .bool (decide (i_2510 < (order_4.length : Int)))), (27, undef), (28, undef), (29, .bool (decide ((i_2510 < (order_4.length : Int)) ∧ (xat_2508 < 0))))]) ⟨rfl, rfl, rfl, rfl, rfl, rfl, rfl, rfl, rfl, rfl, rfl, rfl, rfl, congrArg (fun b => some (Value.bool b)) (and_f hg_2610 : false = decide ((i_2510 < (order_4.length : Int)) ∧ (xat_2508 < 0))), trivial⟩ ?_
 exact WL.nil (At.of ⟨rfl, rfl, rfl, rfl, rfl, rfl, rfl, trivial⟩)
 refine WQ.next ?_
 refine WC.cond rfl ?_ ?_
 intro hc_2746
 replace hV := hV.1 (of_decide_eq_true hc_2746)
 refine WC.skip ?_
 refine WQ.next ?_
 obtain ⟨J_2652, hJ_2653, hV⟩ := hV
 refine WC.meet (fun a w => ∃ (xat_2650 : Int), J_2652 xat_2650 ∧ I64 xat_2650 ∧ St w0 H_1376 (fp_1381 ++ (fp_1386 ++ L)) w ∧ Fr 70 [(1, v_5), (5, v_1380), (6, v_1385), (7, i6 k_1388), (8, i6 xat_2650), (9, i6 i_2510)] a) ?_ ?_
 rintro a w ⟨xat_2650, hI, hr_2651, hS, ha⟩
 refine in_frame ha ?_
 clear ha hV
 have hV := hJ_2653 _ hI
 clear hI hJ_2653
 refine WC.region ?_
 refine WL.mv rfl rfl ?_
 obtain ⟨hi_2693, hV⟩ := hV
 refine WL.run hS rfl rfl rfl (ex_add rfl rfl hi_2693) ?_
 refine WL.ma rfl rfl ?_
 refine WL.nil ?_
 replace hS := hS.f2.f2
 exact WQ.there fun a ha => ⟨(xat_2650, (i_2510 + 1)), ⟨xat_2650, (i_2510 + 1), rfl, hV.1, hr_2651, hi_2693, hS, ha.of_sub ⟨rfl, rfl, rfl, rfl, rfl, rfl, trivial⟩⟩, hV.2⟩
 clear hJ_2653
 refine WC.block ?_
 refine WC.seq ?_
 refine WC.drawn (σ := [0, 1, 2, 3, 4, 5, 6, 7, 8, 9]) (C := St w0 H_1376 (fp_1381 ++ (fp_1386 ++ L))) [[], [], [0, 1], [0, 1, 2], [], [], [4, 5], [4, 5, 6], [0, 1, 2, 3, 4, 5, 6, 7], [0, 1, 2, 3, 4, 5, 6, 7, 8]] [8] Try.mixed (by kernel_rfl) (hS.drawn _) ?_
 clear hS w
 refine Wd.run rfl rfl rfl rfl (fun _ => ex_move rfl) fun q_2655 hq_2654 => ?_
 refine Wd.run rfl rfl rfl rfl (fun _ => ex_move rfl) fun q_2657 hq_2656 => ?_
 obtain ⟨hin_2660, hV⟩ := hV
 refine Wd.runx rfl rfl rfl rfl (exAll (ex_index_own Try.underlying37 Try.sizeOf28 rfl rfl h_1382 hin_2660)) ?_
 intro p_2661 hp_2662
 intro q_2659 hq_2658
 refine Wd.runs (fp := fp_1381) rfl rfl rfl rfl (ex_load_own_s Try.isAgg28 rfl rfl h_1382 hp_2662 hin_2660) (fun _ h => h) ?_
 intro u_2665 hu_2666
 replace hu_2666 := cSl_rep hu_2666
 intro q_2664 hq_2663
 refine Wd.run rfl rfl rfl rfl (fun _ => ex_move rfl) fun q_2668 hq_2667 => ?_
 refine Wd.run rfl rfl rfl rfl (fun _ => ex_move rfl) fun q_2670 hq_2669 => ?_
 obtain ⟨hin_2673, hV⟩ := hV
 refine Wd.runx rfl rfl rfl rfl (exAll (ex_index Try.underlying27 Try.sizeOf3 rfl rfl (h_6.mono le_1377) hin_2673)) ?_
 intro p_2674 hp_2675
 intro q_2672 hq_2671
 refine Wd.runs (fp := ([] : Seg)) (L := fp_1381 ++ (fp_1386 ++ L)) rfl rfl rfl rfl (ex_load_s Try.isAgg3 rfl rfl hp_2675) (fun _ h => h) ?_
 intro u_2678 hu_2679
 obtain ⟨rfl, hr_2680⟩ := cInt_rep hu_2679
 replace hr_2680 := has_I64 hr_2680
 replace hV := hV hr_2680
 intro q_2677 hq_2676
 refine Wd.turn rfl rfl rfl fun w hS => ?_
 refine WL.call rfl rfl rfl (enters0 (vs := [u_2665, i6 (ix order_4 i_2510)]) Try.call78 ⟨rfl, rfl, trivial⟩) (S_rHangs  hu_2666 hr_2680 hS hV) ?_
 clear hV hS
 rintro _ w ⟨r_2681, hV, rfl, hS⟩
 refine ⟨_, rfl, ?_⟩
 refine WL.nil (DQ.mk2 (C' := St w0 H_1376 (fp_1381 ++ (fp_1386 ++ L))) hS ⟨il, il, il, il, il, il, il, il, trivial⟩ ?_)
 clear hS w
 refine Wd.run rfl rfl rfl rfl (fun _ => ex_assign rfl) fun q_2684 hq_2683 => ?_
 refine Wd.nil fun w hS => ?_
 refine WQ.next ?_
 refine WC.sub (m := [(1, v_5), (5, v_1380), (6, v_1385), (7, i6 k_1388), (8, i6 xat_2508), (9, i6 i_2510), (10, .bool r_2681)]) ⟨rfl, rfl, rfl, rfl, rfl, rfl, rfl, trivial⟩ ?_
 refine WC.sr ?_
 refine WL.mv rfl rfl ?_
 refine WL.nx ?_
 refine WC.cond rfl ?_ ?_
 intro hc_2691
 replace hV := hV.1 hc_2691
 refine WC.region ?_
 refine WL.mv rfl rfl ?_
 refine WL.mv rfl rfl ?_
 obtain ⟨hin_2685, hV⟩ := hV
 refine WL.runx hS rfl rfl rfl (ex_index Try.underlying27 Try.sizeOf3 rfl rfl (h_6.mono le_1377) hin_2685) ?_
 intro p_2686 hp_2687
 refine WL.runx hS rfl rfl rfl (ex_load Try.isAgg3 rfl rfl hp_2687) ?_
 intro u_2688 hu_2689
 obtain ⟨rfl, hr_2690⟩ := cInt_rep hu_2689
 replace hr_2690 := has_I64 hr_2690
 replace hV := hV hr_2690
 refine WL.ma rfl rfl ?_
 refine WL.nil ?_
 refine WQ.out nofun ?_
 replace hS := hS.f2.f2
 exact WQ.there fun a ha => ⟨(ix order_4 i_2510), hV, hr_2690, hS, ha.of_sub ⟨rfl, rfl, rfl, rfl, rfl, rfl, trivial⟩⟩
 intro hc_2691
 replace hV := hV.2 hc_2691
 refine WC.skip ?_
 refine WQ.out nofun ?_
 replace hS := hS.f2.f2
 exact WQ.there fun a ha => ⟨xat_2508, hV, hr_2509, hS, ha.of_sub ⟨rfl, rfl, rfl, rfl, rfl, rfl, trivial⟩⟩
 intro hc_2746
 replace hV := hV.2 (of_decide_eq_false hc_2746)
 refine WC.exit ?_
 refine WQ.pass nofun ?_
 refine WQ.pass nofun ?_
 refine WQ.hit ?_
 refine WQ.next ?_
 refine WC.sr ?_
 refine WL.mv rfl rfl ?_
 refine WL.mv rfl rfl ?_
 refine WL.build1 (c := (cInt .i64)) rfl Try.underlying27 Try.info3 rfl rfl (cInt_mk (I64.has hr_2509)) hS ?_
 clear hS
 intro v_2695 w fp_2696 h_2697 hS
 obtain ⟨hr_2698, hV⟩ := hV
 replace hS := hS.f3
 refine WL.append (c := (cInt .i64)) (xs := ask_1384) (ys := ([xat_2508])) rfl Try.underlying27 Try.info3 rfl rfl rfl hS h_1387 (h_2697.src hS.f2) hr_2698.1 hr_2698.2 ?_
 clear hS
 intro v_2699 w fp_2700 h_2701 hS
 refine WL.ma rfl rfl ?_
 refine WL.nx ?_
 replace hS := hS.f2.drop
 refine WC.sr ?_
 refine WL.mv rfl rfl ?_
 refine WL.run hS rfl rfl rfl (ex_geq rfl rfl) ?_
 refine WL.nx ?_
 refine WC.cond rfl ?_ ?_
 intro hc_2745
 replace hV := hV.1 (of_decide_eq_true hc_2745)
 refine WC.sr ?_
 refine WL.mv rfl rfl ?_
 refine WL.mv rfl rfl ?_
 obtain ⟨hin_2704, hV⟩ := hV
 refine WL.runx hS rfl rfl rfl (ex_index_own Try.underlying37 Try.sizeOf28 rfl rfl h_1382 hin_2704) ?_
 intro p_2705 hp_2706
 replace hS := hS.f2
 refine WL.runx hS rfl rfl rfl (exNow (H := H_1376) (L := fp_2700 ++ L) (ex_load_own_s Try.isAgg28 rfl rfl h_1382 hp_2706 hin_2704)) ?_
 intro u_2707 hu_2708
 replace hu_2708 := cSl_rep hu_2708
 refine WL.mv rfl rfl ?_
 refine WL.call rfl rfl rfl (enters0 (vs := [u_2707, i6 xat_2508, .bool false]) Try.call70 ⟨rfl, rfl, rfl, trivial⟩) (S_rWith  hu_2708 hr_2509 hS hV) ?_
 clear hV hS
 rintro _ w ⟨r_2709, v_2710, fp_2711, hV, rfl, h_2712, hS⟩
 refine ⟨_, rfl, ?_⟩
 refine WL.ma rfl rfl ?_
 refine WL.nx ?_
 refine WC.sub (m := [(1, v_5), (5, v_1380), (6, v_2699), (7, i6 k_1388), (8, i6 xat_2508), (11, v_2710)]) ⟨rfl, rfl, rfl, rfl, rfl, rfl, trivial⟩ ?_
 refine WC.sr ?_
 refine WL.mv rfl rfl ?_
 refine WL.mv rfl rfl ?_
 obtain ⟨hin_2715, hV⟩ := hV
 refine WL.runx hS rfl rfl rfl (ex_index_own Try.underlying37 Try.sizeOf28 rfl rfl h_1382 hin_2715) ?_
 intro p_2716 hp_2717
 replace hS := hS.f2
 refine WL.runx hS rfl rfl rfl (exNow (H := H_1376) (L := fp_2711 ++ (fp_2700 ++ L)) (ex_load_own_s Try.isAgg28 rfl rfl h_1382 hp_2717 hin_2715)) ?_
 intro u_2718 hu_2719
 replace hu_2719 := cSl_rep hu_2719
 refine WL.mv rfl rfl ?_
 refine WL.call rfl rfl rfl (enters0 (vs := [u_2718, i6 xat_2508, .bool true]) Try.call70 ⟨rfl, rfl, rfl, trivial⟩) (S_rWith  hu_2719 hr_2509 hS hV) ?_
 clear hV hS
 rintro _ w ⟨r_2720, v_2721, fp_2722, hV, rfl, h_2723, hS⟩
 refine ⟨_, rfl, ?_⟩
 refine WL.ma rfl rfl ?_
 refine WL.nx ?_
 refine WC.region ?_
 refine WL.mv rfl rfl ?_
 refine WL.mv rfl rfl ?_
 refine WL.mv rfl rfl ?_
 replace hS := hS.f3
 obtain ⟨H_2730, le_2731, h_2732, hS⟩ : ∃ K, View.le H_1376 K ∧ IsSl K cBool v_2710 r_2709 ∧ St w0 K (fp_2722 ++ (fp_1381 ++ (fp_2700 ++ L))) w := ⟨_, hS.put_le, h_2712.share hS.put_le, hS.freeze⟩
 obtain ⟨H_2733, le_2734, h_2735, hS⟩ : ∃ K, View.le H_2730 K ∧ IsSl K cBool v_2721 r_2720 ∧ St w0 K (fp_1381 ++ (fp_2700 ++ L)) w := ⟨_, hS.put_le, (h_2723.mono le_2731).share hS.put_le, hS.freeze⟩
 refine WL.buildn (c := (cSl cBool)) (xs := [r_2709, r_2720]) (vs := [v_2710, v_2721]) rfl Try.underlying37 Try.info28 rfl rfl ⟨rfl, rfl, trivial⟩ rfl ⟨_, _, rfl, (cSl_mk (h_2732.mono le_2734)), ⟨_, _, rfl, (cSl_mk h_2735), rfl⟩⟩ hS rfl ?_
 clear hS
 intro v_2727 w fp_2728 h_2729 hS
 obtain ⟨H_2736, le_2737, h_2738, hS⟩ : ∃ K, View.le H_2733 K ∧ IsSl K (cSl cBool) v_2727 ([r_2709, r_2720]) ∧ St w0 K (fp_1381 ++ (fp_2700 ++ L)) w := ⟨_, hS.put_le, h_2729.share hS.put_le, hS.freeze⟩
 refine WL.call rfl rfl rfl (enters0 (vs := [v_1380, v_2727]) Try.call77 ⟨rfl, rfl, trivial⟩) (S_joined  (((h_1382.mono le_2731).mono le_2734).mono le_2737) h_2738 hS hV) ?_
 clear hV hS
 rintro _ w ⟨r_2739, v_2740, fp_2741, hV, rfl, h_2742, hS⟩
 refine ⟨_, rfl, ?_⟩
 refine WL.ma rfl rfl ?_
 refine WL.nil ?_
 refine WQ.out nofun ?_
 replace hS := hS.f2.f2
 exact WQ.there fun a ha => ⟨r_2739, (ask_1384 ++ ([xat_2508])), H_2736, v_2740, fp_2741, v_2699, fp_2700, hV, ((((View.le.refl _).trans le_2731).trans le_2734).trans le_2737), h_2742, (((h_2701.mono le_2731).mono le_2734).mono le_2737), hS, ha.of_sub ⟨rfl, rfl, rfl, rfl, trivial⟩⟩
 intro hc_2745
 replace hV := hV.2 (of_decide_eq_false hc_2745)
 refine WC.skip ?_
 refine WQ.out nofun ?_
 replace hS := hS.f2
 exact WQ.there fun a ha => ⟨row_1379, (ask_1384 ++ ([xat_2508])), H_1376, v_1380, fp_1381, v_2699, fp_2700, hV, (View.le.refl _), h_1382, h_2701, hS, ha.of_sub ⟨rfl, rfl, rfl, rfl, trivial⟩⟩
 intro hc_2750
 replace hV := hV.2 (of_decide_eq_false hc_2750)
 refine WC.exit ?_
 refine WQ.pass nofun ?_
 refine WQ.pass nofun ?_
 refine WQ.hit ?_
 refine WQ.next ?_
 replace hS := hS.drop
 refine WC.sr ?_
 refine WL.mv rfl rfl ?_
 refine WL.ma rfl rfl ?_
 refine WL.nx ?_
 refine WC.ret ?_
 exact leave1 rfl rfl ⟨ask_1384, v_1385, fp_1386, hV, rfl, (rep_own h_1387 (fun _ _ h => h)), (hS.weaken ((View.le.refl _).trans le_1377))⟩

theorem S_rSize {w0 : World} {H : View} {L : Seg} {w : World} {v_2 : Value} {fs_1 : B2} {v_5 : Value} {order_4 : LI} {Q : Int → Prop} (h_3 : IsSl H (cSl cBool) v_2 fs_1) (h_6 : IsSl H (cInt .i64) v_5 order_4) (hS : St w0 H (L) w) (hV : V_rSize fs_1 order_4 Q) :
 Calls Try.prog 23 #[v_2, v_5] w fun e w' => ∃ (r1 : Int), Q r1 ∧ e = .returned (i6 r1) ∧ I64 r1 ∧ St w0 H (L) w' := by
 unfold V_rSize at hV
 refine enter Try.func23 rfl Try.ntmps23 rfl (lk_args_cons (d := 0) (v := v_2) rfl (lk_args_cons (d := 1) (v := v_5) rfl (lk_args_nil _))) ?_
 refine WC.sr ?_
 refine WL.ma rfl rfl ?_
 refine WL.nx ?_
 refine WC.sr ?_
 refine WL.ma rfl rfl ?_
 refine WL.nx ?_
 refine WC.sr ?_
 refine WL.mv rfl rfl ?_
 refine WL.mv rfl rfl ?_
 refine WL.call rfl rfl rfl (enters0 (vs := [v_2, v_5]) Try.call59 ⟨rfl, rfl, trivial⟩) (S_Asked  h_3 h_6 hS hV) ?_
 clear hV hS
 rintro _ w ⟨r_7, v_8, fp_9, hV, rfl, h_10, hS⟩
 refine ⟨_, rfl, ?_⟩
 refine WL.ma rfl rfl ?_
 refine WL.nx ?_
 refine WC.seq ?_
 refine WC.sr ?_
 refine WL.ma rfl rfl ?_
 refine WL.nx ?_
 refine WC.block ?_
 obtain ⟨I_75, mu_76, hI_107, hV⟩ := hV
 refine WC.loop (σ := Int × Int) (fun s a w => ∃ (n_42 : Int) (i_44 : Int), s = (n_42, i_44) ∧ I_75 (n_42, i_44) ∧ I64 n_42 ∧ I64 i_44 ∧ St w0 H (fp_9 ++ L) w ∧ Fr 25 [(5, i6 n_42), (6, v_8), (7, i6 i_44)] a) mu_76 (0, 0) ?_ ?_
 exact fun a ha => ⟨0, 0, rfl, hI_107, (by unfold I64; omega), (by unfold I64; omega), hS, ha.of_sub ⟨rfl, rfl, rfl, trivial⟩⟩
 clear hS hI_107
 rintro _ a w ⟨n_42, i_44, rfl, hI, hr_43, hr_45, hS, ha⟩
 refine in_frame ha ?_
 clear ha
 replace hV := hV _ hI
 clear hI
 refine WC.seq ?_
 refine WC.sr ?_
 refine WL.mv rfl rfl ?_
 refine WL.mv rfl rfl ?_
 have hl_78 : Len r_7 := h_10.bound
 replace hV := hV hl_78
 refine WL.run hS rfl rfl rfl (ex_len_own Try.underlying27 rfl h_10) ?_
 refine WL.run hS rfl rfl rfl (ex_lss rfl rfl) ?_
 refine WL.nx ?_
 refine WC.cond rfl ?_ ?_
 intro hc_106
 replace hV := hV.1 (of_decide_eq_true hc_106)
 refine WC.skip ?_
 refine WQ.next ?_
 obtain ⟨J_92, hJ_93, hV⟩ := hV
 refine WC.meet (fun a w => ∃ (n_90 : Int), J_92 n_90 ∧ I64 n_90 ∧ St w0 H (fp_9 ++ L) w ∧ Fr 25 [(5, i6 n_90), (6, v_8), (7, i6 i_44)] a) ?_ ?_
 rintro a w ⟨n_90, hI, hr_91, hS, ha⟩
 refine in_frame ha ?_
 clear ha hV
 have hV := hJ_93 _ hI
 clear hI hJ_93
 refine WC.region ?_
 refine WL.mv rfl rfl ?_
 obtain ⟨hi_105, hV⟩ := hV
 refine WL.run hS rfl rfl rfl (ex_add rfl rfl hi_105) ?_
 refine WL.ma rfl rfl ?_
 refine WL.nil ?_
 exact WQ.there fun a ha => ⟨(n_90, (i_44 + 1)), ⟨n_90, (i_44 + 1), rfl, hV.1, hr_91, hi_105, hS, ha.of_sub ⟨rfl, rfl, rfl, trivial⟩⟩, hV.2⟩
 clear hJ_93
 refine WC.block ?_
 refine WC.sr ?_
 refine WL.mv rfl rfl ?_
 refine WL.mv rfl rfl ?_
 obtain ⟨hin_94, hV⟩ := hV
 refine WL.runx hS rfl rfl rfl (ex_index_own Try.underlying27 Try.sizeOf3 rfl rfl h_10 hin_94) ?_
 intro p_95 hp_96
 refine WL.runx hS rfl rfl rfl (exNow (H := H) (L := L) (ex_load_own_s Try.isAgg3 rfl rfl h_10 hp_96 hin_94)) ?_
 intro u_97 hu_98
 obtain ⟨rfl, hr_99⟩ := cInt_rep hu_98
 replace hr_99 := has_I64 hr_99
 replace hV := hV hr_99
 refine WL.run hS rfl rfl rfl (ex_geq rfl rfl) ?_
 refine WL.nx ?_
 refine WC.cond rfl ?_ ?_
 intro hc_103
 replace hV := hV.1 (of_decide_eq_true hc_103)
 refine WC.region ?_
 refine WL.mv rfl rfl ?_
 obtain ⟨hi_102, hV⟩ := hV
 refine WL.run hS rfl rfl rfl (ex_add rfl rfl hi_102) ?_
 refine WL.ma rfl rfl ?_
 refine WL.nil ?_
 refine WQ.out nofun ?_
 exact WQ.there fun a ha => ⟨(n_42 + 1), hV, hi_102, hS, ha.of_sub ⟨rfl, rfl, rfl, trivial⟩⟩
 intro hc_103
 replace hV := hV.2 (of_decide_eq_false hc_103)
 refine WC.skip ?_
 refine WQ.out nofun ?_
 exact WQ.there fun a ha => ⟨n_42, hV, hr_43, hS, ha.of_sub ⟨rfl, rfl, rfl, trivial⟩⟩
 intro hc_106
 replace hV := hV.2 (of_decide_eq_false hc_106)
 refine WC.exit ?_
 refine WQ.pass nofun ?_
 refine WQ.pass nofun ?_
 refine WQ.hit ?_
 refine WQ.next ?_
 replace hS := hS.drop
 refine WC.sr ?_
 refine WL.mv rfl rfl ?_
 refine WL.ma rfl rfl ?_
 refine WL.nx ?_
 refine WC.ret ?_
 exact leave1 rfl rfl ⟨n_42, hV, rfl, hr_43, hS⟩

theorem S_without {w0 : World} {H : View} {L : Seg} {w : World} {v_2 : Value} {order_1 : LI} {v_4 : Int} {Q : LI → Prop} (h_3 : IsSl H (cInt .i64) v_2 order_1) (hr_5 : I64 v_4) (hS : St w0 H (L) w) (hV : V_without order_1 v_4 Q) :
 Calls Try.prog 60 #[v_2, i6 v_4] w fun e w' => ∃ (r1 : LI) (v1 : Value) (fp1 : Seg), Q r1 ∧ e = .returned (v1) ∧ OwnSl H (cInt .i64) 3 v1 r1 fp1 ∧ St w0 H (fp1 ++ L) w' := by
 unfold V_without at hV
 refine enter Try.func60 rfl Try.ntmps60 rfl (lk_args_cons (d := 0) (v := v_2) rfl (lk_args_cons (d := 1) (v := i6 v_4) rfl (lk_args_nil _))) ?_
 refine WC.sr ?_
 refine WL.ma rfl rfl ?_
 refine WL.nx ?_
 refine WC.sr ?_
 refine WL.ma rfl rfl ?_
 refine WL.nx ?_
 refine WC.seq ?_
 refine WC.sr ?_
 refine WL.ma rfl rfl ?_
 refine WL.nx ?_
 refine WC.block ?_
 replace hS := hS.nilseg
 obtain ⟨I_131, mu_132, hI_192, hV⟩ := hV
 refine WC.loop (σ := LI × Int) (fun s a w => ∃ (l_67 : LI) (i_71 : Int) (v_68 : Value) (fp_69 : Seg), s = (l_67, i_71) ∧ I_131 (l_67, i_71) ∧ OwnSl H (cInt .i64) 3 v_68 l_67 fp_69 ∧ I64 i_71 ∧ St w0 H (fp_69 ++ L) w ∧ Fr 27 [(0, v_2), (1, i6 v_4), (5, v_68), (6, i6 i_71)] a) mu_132 (([] : LI), 0) ?_ ?_
 exact fun a ha => ⟨([] : LI), 0, (.slice none 0 0), ([] : Seg), rfl, hI_192, OwnSl.nil, (by unfold I64; omega), hS, ha.of_sub ⟨rfl, rfl, rfl, rfl, trivial⟩⟩
 clear hS hI_192
 rintro _ a w ⟨l_67, i_71, v_68, fp_69, rfl, hI, h_70, hr_72, hS, ha⟩
 refine in_frame ha ?_
 clear ha
 replace hV := hV _ hI
 clear hI
 refine WC.seq ?_
 refine WC.sr ?_
 refine WL.mv rfl rfl ?_
 refine WL.mv rfl rfl ?_
 have hl_134 : Len order_1 := h_3.bound
 replace hV := hV hl_134
 refine WL.run hS rfl rfl rfl (ex_len_sl Try.underlying27 rfl h_3) ?_
 refine WL.run hS rfl rfl rfl (ex_lss rfl rfl) ?_
 refine WL.nx ?_
 refine WC.cond rfl ?_ ?_
 intro hc_191
 replace hV := hV.1 (of_decide_eq_true hc_191)
 refine WC.skip ?_
 refine WQ.next ?_
 obtain ⟨J_164, hJ_165, hV⟩ := hV
 refine WC.meet (fun a w => ∃ (l_160 : LI) (v_161 : Value) (fp_162 : Seg), J_164 l_160 ∧ OwnSl H (cInt .i64) 3 v_161 l_160 fp_162 ∧ St w0 H (fp_162 ++ L) w ∧ Fr 27 [(0, v_2), (1, i6 v_4), (5, v_161), (6, i6 i_71)] a) ?_ ?_
 rintro a w ⟨l_160, v_161, fp_162, hI, h_163, hS, ha⟩
 refine in_frame ha ?_
 clear ha hV
 have hV := hJ_165 _ hI
 clear hI hJ_165
 refine WC.region ?_
 refine WL.mv rfl rfl ?_
 obtain ⟨hi_190, hV⟩ := hV
 refine WL.run hS rfl rfl rfl (ex_add rfl rfl hi_190) ?_
 refine WL.ma rfl rfl ?_
 refine WL.nil ?_
 exact WQ.there fun a ha => ⟨(l_160, (i_71 + 1)), ⟨l_160, (i_71 + 1), v_161, fp_162, rfl, hV.1, h_163, hi_190, hS, ha.of_sub ⟨rfl, rfl, rfl, rfl, trivial⟩⟩, hV.2⟩
 clear hJ_165
 refine WC.block ?_
 refine WC.sr ?_
 refine WL.mv rfl rfl ?_
 refine WL.mv rfl rfl ?_
 obtain ⟨hin_166, hV⟩ := hV
 refine WL.runx hS rfl rfl rfl (ex_index Try.underlying27 Try.sizeOf3 rfl rfl h_3 hin_166) ?_
 intro p_167 hp_168
 refine WL.runx hS rfl rfl rfl (ex_load Try.isAgg3 rfl rfl hp_168) ?_
 intro u_169 hu_170
 obtain ⟨rfl, hr_171⟩ := cInt_rep hu_170
 replace hr_171 := has_I64 hr_171
 replace hV := hV hr_171
 refine WL.mv rfl rfl ?_
 refine WL.run hS rfl rfl rfl (ex_neq rfl rfl) ?_
 refine WL.nx ?_
 refine WC.cond rfl ?_ ?_
 intro hc_188
 replace hV := hV.1 (of_decide_eq_true hc_188)
 refine WC.region ?_
 refine WL.mv rfl rfl ?_
 refine WL.mv rfl rfl ?_
 refine WL.mv rfl rfl ?_
 obtain ⟨hin_173, hV⟩ := hV
 refine WL.runx hS rfl rfl rfl (ex_index Try.underlying27 Try.sizeOf3 rfl rfl h_3 hin_173) ?_
 intro p_174 hp_175
 refine WL.runx hS rfl rfl rfl (ex_load Try.isAgg3 rfl rfl hp_175) ?_
 intro u_176 hu_177
 obtain ⟨rfl, hr_178⟩ := cInt_rep hu_177
 replace hr_178 := has_I64 hr_178
 replace hV := hV hr_178
 refine WL.build1 (c := (cInt .i64)) rfl Try.underlying27 Try.info3 rfl rfl (cInt_mk (I64.has hr_178)) hS ?_
 clear hS
 intro v_180 w fp_181 h_182 hS
 obtain ⟨hr_183, hV⟩ := hV
 replace hS := hS.f2
 refine WL.append (c := (cInt .i64)) (xs := l_67) (ys := ([(ix order_1 i_71)])) rfl Try.underlying27 Try.info3 rfl rfl rfl hS h_70 (h_182.src hS.f2) hr_183.1 hr_183.2 ?_
 clear hS
 intro v_184 w fp_185 h_186 hS
 refine WL.ma rfl rfl ?_
 refine WL.nil ?_
 refine WQ.out nofun ?_
 replace hS := hS.f2.drop
 exact WQ.there fun a ha => ⟨(l_67 ++ ([(ix order_1 i_71)])), v_184, fp_185, hV, h_186, hS, ha.of_sub ⟨rfl, rfl, rfl, rfl, trivial⟩⟩
 intro hc_188
 replace hV := hV.2 (of_decide_eq_false hc_188)
 refine WC.skip ?_
 refine WQ.out nofun ?_
 exact WQ.there fun a ha => ⟨l_67, v_68, fp_69, hV, h_70, hS, ha.of_sub ⟨rfl, rfl, rfl, rfl, trivial⟩⟩
 intro hc_191
 replace hV := hV.2 (of_decide_eq_false hc_191)
 refine WC.exit ?_
 refine WQ.pass nofun ?_
 refine WQ.pass nofun ?_
 refine WQ.hit ?_
 refine WQ.next ?_
 refine WC.sr ?_
 refine WL.mv rfl rfl ?_
 refine WL.ma rfl rfl ?_
 refine WL.nx ?_
 refine WC.ret ?_
 exact leave1 rfl rfl ⟨l_67, v_68, fp_69, hV, rfl, h_70, hS⟩

theorem S_rat {w0 : World} {H : View} {L : Seg} {w : World} {v_2 : Value} {order_1 : LI} {v_4 : Int} {place_6 : Int} {Q : LI → Prop} (h_3 : IsSl H (cInt .i64) v_2 order_1) (hr_5 : I64 v_4) (hr_7 : I64 place_6) (hS : St w0 H (L) w) (hV : V_rat order_1 v_4 place_6 Q) :
 Calls Try.prog 61 #[v_2, i6 v_4, i6 place_6] w fun e w' => ∃ (r1 : LI) (v1 : Value) (fp1 : Seg), Q r1 ∧ e = .returned (v1) ∧ OwnSl H (cInt .i64) 3 v1 r1 fp1 ∧ St w0 H (fp1 ++ L) w' := by
 unfold V_rat at hV
 refine enter Try.func61 rfl Try.ntmps61 rfl (lk_args_cons (d := 0) (v := v_2) rfl (lk_args_cons (d := 1) (v := i6 v_4) rfl (lk_args_cons (d := 2) (v := i6 place_6) rfl (lk_args_nil _)))) ?_
 refine WC.sr ?_
 refine WL.ma rfl rfl ?_
 refine WL.nx ?_
 refine WC.sr ?_
 refine WL.ma rfl rfl ?_
 refine WL.nx ?_
 refine WC.sr ?_
 refine WL.mv rfl rfl ?_
 refine WL.mv rfl rfl ?_
 refine WL.mv rfl rfl ?_
 obtain ⟨hb_10, hV⟩ := hV
 refine WL.runx hS rfl rfl rfl (ex_slice_hi Try.underlying27 Try.sizeOf3 rfl rfl h_3 hb_10) ?_
 intro v_11 h_12
 obtain ⟨hr_13, hV⟩ := hV
 replace hS := hS.nilseg
 refine WL.append (c := (cInt .i64)) (xs := ([] : LI)) (ys := (order_1.take place_6.toNat)) rfl Try.underlying27 Try.info3 rfl rfl rfl hS OwnSl.nil (h_12.src hS) hr_13.1 hr_13.2 ?_
 clear hS
 intro v_14 w fp_15 h_16 hS
 rw [List.nil_append] at h_16
 refine WL.ma rfl rfl ?_
 refine WL.nx ?_
 refine WC.sr ?_
 refine WL.mv rfl rfl ?_
 refine WL.mv rfl rfl ?_
 refine WL.build1 (c := (cInt .i64)) rfl Try.underlying27 Try.info3 rfl rfl (cInt_mk (I64.has hr_5)) hS ?_
 clear hS
 intro v_19 w fp_20 h_21 hS
 obtain ⟨hr_22, hV⟩ := hV
 replace hS := hS.f2
 refine WL.append (c := (cInt .i64)) (xs := (order_1.take place_6.toNat)) (ys := ([v_4])) rfl Try.underlying27 Try.info3 rfl rfl rfl hS h_16 (h_21.src hS.f2) hr_22.1 hr_22.2 ?_
 clear hS
 intro v_23 w fp_24 h_25 hS
 refine WL.ma rfl rfl ?_
 refine WL.nx ?_
 replace hS := hS.f2.drop
 refine WC.sr ?_
 refine WL.mv rfl rfl ?_
 refine WL.mv rfl rfl ?_
 refine WL.mv rfl rfl ?_
 obtain ⟨hb_27, hV⟩ := hV
 refine WL.runx hS rfl rfl rfl (ex_slice_lo Try.underlying27 Try.sizeOf3 rfl rfl h_3 hb_27) ?_
 intro v_28 h_29
 obtain ⟨hr_30, hV⟩ := hV
 refine WL.append (c := (cInt .i64)) (xs := ((order_1.take place_6.toNat) ++ ([v_4]))) (ys := (order_1.drop place_6.toNat)) rfl Try.underlying27 Try.info3 rfl rfl rfl hS h_25 (h_29.src hS) hr_30.1 hr_30.2 ?_
 clear hS
 intro v_31 w fp_32 h_33 hS
 refine WL.ma rfl rfl ?_
 refine WL.nx ?_
 refine WC.sub (m := [(7, v_31)]) ⟨rfl, trivial⟩ ?_
 refine WC.sr ?_
 refine WL.mv rfl rfl ?_
 refine WL.ma rfl rfl ?_
 refine WL.nx ?_
 refine WC.ret ?_
 exact leave1 rfl rfl ⟨(((order_1.take place_6.toNat) ++ ([v_4])) ++ (order_1.drop place_6.toNat)), v_31, fp_32, hV, rfl, h_33, hS⟩

theorem S_rSift {w0 : World} {H : View} {L : Seg} {w : World} {v_2 : Value} {fs_1 : B2} {v_5 : Value} {order_4 : LI} {fp_7 : Seg} {Q : LI → Prop} (h_3 : IsSl H (cSl cBool) v_2 fs_1) (h_6 : OwnSl H (cInt .i64) 3 v_5 order_4 fp_7) (hS : St w0 H (fp_7 ++ L) w) (hV : V_rSift fs_1 order_4 Q) :
 Calls Try.prog 20 #[v_2, v_5] w fun e w' => ∃ (r1 : LI) (v1 : Value) (fp1 : Seg), Q r1 ∧ e = .returned (v1) ∧ OwnSl H (cInt .i64) 3 v1 r1 fp1 ∧ St w0 H (fp1 ++ L) w' := by
 unfold V_rSift at hV
 refine enter Try.func20 rfl Try.ntmps20 rfl (lk_args_cons (d := 0) (v := v_2) rfl (lk_args_cons (d := 1) (v := v_5) rfl (lk_args_nil _))) ?_
 refine WC.sr ?_
 refine WL.ma rfl rfl ?_
 refine WL.nx ?_
 refine WC.sr ?_
 refine WL.mv rfl rfl ?_
 have hl_10 : Len order_4 := h_6.bound
 replace hV := hV hl_10
 refine WL.run hS rfl rfl rfl (ex_len_own Try.underlying27 rfl h_6) ?_
 refine WL.ma rfl rfl ?_
 refine WL.nx ?_
 refine WC.sr ?_
 refine WL.mv rfl rfl ?_
 obtain ⟨hm_15, hV⟩ := hV
 refine WL.make (c := (cInt .i64)) (z0 := (0 : Int)) rfl Try.underlying27 Try.info3 rfl ⟨rfl, I64.has (by unfold I64; omega)⟩ rfl rfl hm_15.1 hm_15.2.1 hm_15.2.2 hS ?_
 clear hS
 intro v_12 w fp_13 h_14 hS
 refine WL.ma rfl rfl ?_
 refine WL.nx ?_
 refine WC.sr ?_
 refine WL.mv rfl rfl ?_
 refine WL.mv rfl rfl ?_
 replace hS := hS.f2
 have hL_16 := hS.freeze
 refine WL.call rfl rfl rfl (enters0 (vs := [v_2, v_5]) Try.call59 ⟨rfl, rfl, trivial⟩) (S_Asked  (h_3.mono hS.put_le) (h_6.share hS.put_le) hL_16 hV) ?_
 clear hV
 rintro _ w ⟨r_17, v_18, fp_19, hV, rfl, h_20, hL_22⟩
 refine ⟨_, rfl, ?_⟩
 have hB_24 := hS.back hL_22
 replace hS := hB_24
 clear hL_22 hL_16 hB_24
 replace h_20 := rep_own (K := H) h_20 (fun _ _ h => h)
 refine WL.ma rfl rfl ?_
 refine WL.nx ?_
 refine WC.seq ?_
 refine WC.sr ?_
 refine WL.ma rfl rfl ?_
 refine WL.nx ?_
 refine WC.block ?_
 replace hS := hS.f2.f3.f3
 obtain ⟨I_300, mu_301, hI_1970, hV⟩ := hV
 refine WC.loop (σ := LI × Int) (fun s a w => ∃ (asks_160 : LI) (i_164 : Int) (v_161 : Value) (fp_162 : Seg), s = (asks_160, i_164) ∧ I_300 (asks_160, i_164) ∧ OwnSl H (cInt .i64) 3 v_161 asks_160 fp_162 ∧ I64 i_164 ∧ St w0 H (fp_7 ++ (fp_162 ++ (fp_19 ++ L))) w ∧ Fr 111 [(0, v_2), (1, v_5), (5, i6 (order_4.length : Int)), (6, v_161), (7, v_18), (8, i6 i_164)] a) mu_301 ((List.replicate (order_4.length : Int).toNat (0 : Int)), 0) ?_ ?_
 exact fun a ha => ⟨(List.replicate (order_4.length : Int).toNat (0 : Int)), 0, v_12, fp_13, rfl, hI_1970, h_14, (by unfold I64; omega), hS, ha.of_sub ⟨rfl, rfl, rfl, rfl, rfl, rfl, trivial⟩⟩
 clear hS hI_1970
 rintro _ a w ⟨asks_160, i_164, v_161, fp_162, rfl, hI, h_163, hr_165, hS, ha⟩
 refine in_frame ha ?_
 clear ha
 replace hV := hV _ hI
 clear hI
 refine WC.seq ?_
 refine WC.sr ?_
 refine WL.mv rfl rfl ?_
 refine WL.mv rfl rfl ?_
 have hl_303 : Len r_17 := h_20.bound
 replace hV := hV hl_303
 refine WL.run hS rfl rfl rfl (ex_len_own Try.underlying27 rfl h_20) ?_
 refine WL.run hS rfl rfl rfl (ex_lss rfl rfl) ?_
 refine WL.nx ?_
 refine WC.cond rfl ?_ ?_
 intro hc_1969
 replace hV := hV.1 (of_decide_eq_true hc_1969)
 refine WC.skip ?_
 refine WQ.next ?_
 obtain ⟨J_371, hJ_372, hV⟩ := hV
 refine WC.meet (fun a w => ∃ (asks_367 : LI) (v_368 : Value) (fp_369 : Seg), J_371 asks_367 ∧ OwnSl H (cInt .i64) 3 v_368 asks_367 fp_369 ∧ St w0 H (fp_7 ++ (fp_369 ++ (fp_19 ++ L))) w ∧ Fr 111 [(0, v_2), (1, v_5), (5, i6 (order_4.length : Int)), (6, v_368), (7, v_18), (8, i6 i_164)] a) ?_ ?_
 rintro a w ⟨asks_367, v_368, fp_369, hI, h_370, hS, ha⟩
 refine in_frame ha ?_
 clear ha hV
 have hV := hJ_372 _ hI
 clear hI hJ_372
 refine WC.region ?_
 refine WL.mv rfl rfl ?_
 obtain ⟨hi_435, hV⟩ := hV
 refine WL.run hS rfl rfl rfl (ex_add rfl rfl hi_435) ?_
 refine WL.ma rfl rfl ?_
 refine WL.nil ?_
 replace hS := hS.f3.f3.f3
 exact WQ.there fun a ha => ⟨(asks_367, (i_164 + 1)), ⟨asks_367, (i_164 + 1), v_368, fp_369, rfl, hV.1, h_370, hi_435, hS, ha.of_sub ⟨rfl, rfl, rfl, rfl, rfl, rfl, trivial⟩⟩, hV.2⟩
 clear hJ_372
 refine WC.block ?_
 refine WC.sr ?_
 refine WL.mv rfl rfl ?_
 refine WL.mv rfl rfl ?_
 obtain ⟨hin_373, hV⟩ := hV
 refine WL.runx hS rfl rfl rfl (ex_index_own Try.underlying27 Try.sizeOf3 rfl rfl h_20 hin_373) ?_
 intro p_374 hp_375
 replace hS := hS.f3
 refine WL.runx hS rfl rfl rfl (exNow (H := H) (L := fp_7 ++ (fp_162 ++ L)) (ex_load_own_s Try.isAgg3 rfl rfl h_20 hp_375 hin_373)) ?_
 intro u_376 hu_377
 obtain ⟨rfl, hr_378⟩ := cInt_rep hu_377
 replace hr_378 := has_I64 hr_378
 replace hV := hV hr_378
 refine WL.run hS rfl rfl rfl (ex_geq rfl rfl) ?_
 refine WL.nx ?_
 refine WC.cond rfl ?_ ?_
 intro hc_433
 replace hV := hV.1 (of_decide_eq_true hc_433)
 refine WC.drawn (σ := [0, 1, 2, 3, 4, 5, 6, 7, 8, 9, 10, 11, 12, 13, 14]) (C := St w0 H (fp_19 ++ (fp_7 ++ (fp_162 ++ L)))) [[], [], [], [1, 2], [1, 2, 3], [], [], [], [6, 7], [6, 7, 8], [5, 6, 7, 8, 9], [5, 6, 7, 8, 9, 10], [5, 6, 7, 8, 9, 10, 11], [0, 1, 2, 3, 4, 5, 6, 7, 8, 9, 10, 11, 12], [0, 1, 2, 3, 4, 5, 6, 7, 8, 9, 10, 11, 12, 13]] [14] Try.mixed (by kernel_rfl) (hS.drawn _) ?_
 clear hS w
 refine Wd.run rfl rfl rfl rfl (fun _ => ex_move rfl) fun q_381 hq_380 => ?_
 refine Wd.run rfl rfl rfl rfl (fun _ => ex_move rfl) fun q_383 hq_382 => ?_
 refine Wd.run rfl rfl rfl rfl (fun _ => ex_move rfl) fun q_385 hq_384 => ?_
 obtain ⟨hin_388, hV⟩ := hV
 refine Wd.runx rfl rfl rfl rfl (exAll (ex_index_own Try.underlying27 Try.sizeOf3 rfl rfl h_20 hin_388)) ?_
 intro p_389 hp_390
 intro q_387 hq_386
 refine Wd.runs (fp := fp_19) rfl rfl rfl rfl (ex_load_own_s Try.isAgg3 rfl rfl h_20 hp_390 hin_388) (fun _ h => h) ?_
 intro u_393 hu_394
 obtain ⟨rfl, hr_395⟩ := cInt_rep hu_394
 replace hr_395 := has_I64 hr_395
 replace hV := hV hr_395
 intro q_392 hq_391
 refine Wd.run rfl rfl rfl rfl (fun _ => ex_move rfl) fun q_397 hq_396 => ?_
 refine Wd.run rfl rfl rfl rfl (fun _ => ex_move rfl) fun q_399 hq_398 => ?_
 refine Wd.run rfl rfl rfl rfl (fun _ => ex_move rfl) fun q_401 hq_400 => ?_
 obtain ⟨hin_404, hV⟩ := hV
 refine Wd.runx rfl rfl rfl rfl (exAll (ex_index_own Try.underlying27 Try.sizeOf3 rfl rfl h_20 hin_404)) ?_
 intro p_405 hp_406
 intro q_403 hq_402
 refine Wd.runs (fp := fp_19) rfl rfl rfl rfl (ex_load_own_s Try.isAgg3 rfl rfl h_20 hp_406 hin_404) (fun _ h => h) ?_
 intro u_409 hu_410
 obtain ⟨rfl, hr_411⟩ := cInt_rep hu_410
 replace hr_411 := has_I64 hr_411
 replace hV := hV hr_411
 intro q_408 hq_407
 obtain ⟨hin_414, hV⟩ := hV
 refine Wd.runx rfl rfl rfl rfl (exAll (ex_index_own Try.underlying27 Try.sizeOf3 rfl rfl h_163 hin_414)) ?_
 intro p_415 hp_416
 intro q_413 hq_412
 refine Wd.runs (fp := fp_162) rfl rfl rfl rfl (ex_load_own_s Try.isAgg3 rfl rfl h_163 hp_416 hin_414) (fun _ h => St.f3 h) ?_
 intro u_419 hu_420
 obtain ⟨rfl, hr_421⟩ := cInt_rep hu_420
 replace hr_421 := has_I64 hr_421
 replace hV := hV hr_421
 intro q_418 hq_417
 obtain ⟨hi_425, hV⟩ := hV
 refine Wd.run rfl rfl rfl rfl (fun _ => ex_add rfl rfl hi_425) fun q_423 hq_422 => ?_
 obtain ⟨hin_428, hV⟩ := hV
 refine Wd.runx rfl rfl rfl rfl (exAll (ex_index_own Try.underlying27 Try.sizeOf3 rfl rfl h_163 hin_428)) ?_
 intro p_429 hp_430
 intro q_427 hq_426
 refine Wd.turn rfl rfl rfl fun w hS => ?_
 replace hS := hS.f3
 refine WL.store_own Try.sizeOf3 rfl rfl rfl (cInt_mk (I64.has hi_425)) hS h_163 hp_430 hin_428 ?_
 clear hS
 intro w fp_432 h_431 hS
 refine WL.nil (DQ.mk2 (C' := St w0 H (fp_432 ++ (fp_19 ++ (fp_7 ++ L)))) hS ⟨il, il, il, il, il, il, il, il, il, il, il, il, il, il, trivial⟩ ?_)
 clear hS w
 refine Wd.nil fun w hS => ?_
 refine WQ.out nofun ?_
 replace hS := hS.f2.f2.f3
 exact WQ.there fun a ha => ⟨(asks_160.set (ix r_17 i_164).toNat ((ix asks_160 (ix r_17 i_164)) + 1)), v_161, fp_432, hV, h_431, hS, ha.of_sub ⟨rfl, rfl, rfl, rfl, rfl, rfl, trivial⟩⟩
 intro hc_433
 replace hV := hV.2 (of_decide_eq_false hc_433)
 refine WC.skip ?_
 refine WQ.out nofun ?_
 replace hS := hS.f3.f3
 exact WQ.there fun a ha => ⟨asks_160, v_161, fp_162, hV, h_163, hS, ha.of_sub ⟨rfl, rfl, rfl, rfl, rfl, rfl, trivial⟩⟩
 intro hc_1969
 replace hV := hV.2 (of_decide_eq_false hc_1969)
 refine WC.exit ?_
 refine WQ.pass nofun ?_
 refine WQ.pass nofun ?_
 refine WQ.hit ?_
 refine WQ.next ?_
 replace hS := hS.f3.drop
 refine WC.sr ?_
 refine WL.mv rfl rfl ?_
 obtain ⟨hm_440, hV⟩ := hV
 refine WL.make (c := cBool) (z0 := false) rfl Try.underlying28 Try.info4 rfl rfl rfl rfl hm_440.1 hm_440.2.1 hm_440.2.2 hS ?_
 clear hS
 intro v_437 w fp_438 h_439 hS
 refine WL.ma rfl rfl ?_
 refine WL.nx ?_
 refine WC.seq ?_
 refine WC.sr ?_
 refine WL.ma rfl rfl ?_
 refine WL.nx ?_
 refine WC.block ?_
 replace hS := hS.f3.f3
 obtain ⟨I_1461, mu_1462, hI_1968, hV⟩ := hV
 refine WC.loop (σ := LI × (List Bool) × Int) (fun s a w => ∃ (order_946 : LI) (done_951 : List Bool) (k_955 : Int) (v_947 : Value) (fp_948 : Seg) (v_952 : Value) (fp_953 : Seg), s = (order_946, done_951, k_955) ∧ I_1461 (order_946, done_951, k_955) ∧ OwnSl H (cInt .i64) 3 v_947 order_946 fp_948 ∧ OwnSl H cBool 4 v_952 done_951 fp_953 ∧ I64 k_955 ∧ St w0 H (fp_948 ++ (fp_162 ++ (fp_953 ++ L))) w ∧ Fr 111 [(0, v_2), (1, v_947), (5, i6 (order_4.length : Int)), (6, v_161), (9, v_952), (10, i6 k_955)] a) mu_1462 (order_4, (List.replicate (order_4.length : Int).toNat false), 0) ?_ ?_
 exact fun a ha => ⟨order_4, (List.replicate (order_4.length : Int).toNat false), 0, v_5, fp_7, v_437, fp_438, rfl, hI_1968, h_6, h_439, (by unfold I64; omega), hS, ha.of_sub ⟨rfl, rfl, rfl, rfl, rfl, rfl, trivial⟩⟩
 clear hS hI_1968
 rintro _ a w ⟨order_946, done_951, k_955, v_947, fp_948, v_952, fp_953, rfl, hI, h_949, h_954, hr_956, hS, ha⟩
 refine in_frame ha ?_
 clear ha
 replace hV := hV _ hI
 clear hI
 refine WC.seq ?_
 refine WC.sr ?_
 refine WL.mv rfl rfl ?_
 refine WL.mv rfl rfl ?_
 refine WL.run hS rfl rfl rfl (ex_lss rfl rfl) ?_
 refine WL.nx ?_
 refine WC.cond rfl ?_ ?_
 intro hc_1967
 replace hV := hV.1 (of_decide_eq_true hc_1967)
 refine WC.skip ?_
 refine WQ.next ?_
 refine WC.seq ?_
 refine WC.block ?_
 refine WC.sr ?_
 refine WL.ma rfl rfl ?_
 refine WL.nx ?_
 refine WC.seq ?_
 refine WC.sr ?_
 refine WL.ma rfl rfl ?_
 refine WL.nx ?_
 refine WC.block ?_
 replace hS := hS.f3.f3.f3
 obtain ⟨I_1669, mu_1670, hI_1966, hV⟩ := hV
 refine WC.loop (σ := Int × Int) (fun s a w => ∃ (v_1565 : Int) (i_1567 : Int), s = (v_1565, i_1567) ∧ I_1669 (v_1565, i_1567) ∧ I64 v_1565 ∧ I64 i_1567 ∧ St w0 H (fp_948 ++ (fp_162 ++ (fp_953 ++ L))) w ∧ Fr 111 [(0, v_2), (1, v_947), (5, i6 (order_4.length : Int)), (6, v_161), (9, v_952), (10, i6 k_955), (11, i6 v_1565), (12, i6 i_1567)] a) mu_1670 ((-1), 0) ?_ ?_
 exact fun a ha => ⟨(-1), 0, rfl, hI_1966, (by unfold I64; omega), (by unfold I64; omega), hS, ha.of_sub ⟨rfl, rfl, rfl, rfl, rfl, rfl, rfl, rfl, trivial⟩⟩
 clear hS hI_1966
 rintro _ a w ⟨v_1565, i_1567, rfl, hI, hr_1566, hr_1568, hS, ha⟩
 refine in_frame ha ?_
 clear ha
 replace hV := hV _ hI
 clear hI
 refine WC.seq ?_
 refine WC.sr ?_
 refine WL.mv rfl rfl ?_
 refine WL.mv rfl rfl ?_
 refine WL.run hS rfl rfl rfl (ex_lss rfl rfl) ?_
 refine WL.nx ?_
 refine WC.cond rfl ?_ ?_
 intro hc_1965
 replace hV := hV.1 (of_decide_eq_true hc_1965)
 refine WC.skip ?_
 refine WQ.next ?_
 obtain ⟨J_1721, hJ_1722, hV⟩ := hV
 refine WC.meet (fun a w => ∃ (v_1719 : Int), J_1721 v_1719 ∧ I64 v_1719 ∧ St w0 H (fp_948 ++ (fp_162 ++ (fp_953 ++ L))) w ∧ Fr 111 [(0, v_2), (1, v_947), (5, i6 (order_4.length : Int)), (6, v_161), (9, v_952), (10, i6 k_955), (11, i6 v_1719), (12, i6 i_1567)] a) ?_ ?_
 rintro a w ⟨v_1719, hI, hr_1720, hS, ha⟩
 refine in_frame ha ?_
 clear ha hV
 have hV := hJ_1722 _ hI
 clear hI hJ_1722
 refine WC.region ?_
 refine WL.mv rfl rfl ?_
 obtain ⟨hi_1770, hV⟩ := hV
 refine WL.run hS rfl rfl rfl (ex_add rfl rfl hi_1770) ?_
 refine WL.ma rfl rfl ?_
 refine WL.nil ?_
 replace hS := hS.f3.f3.f3
 exact WQ.there fun a ha => ⟨(v_1719, (i_1567 + 1)), ⟨v_1719, (i_1567 + 1), rfl, hV.1, hr_1720, hi_1770, hS, ha.of_sub ⟨rfl, rfl, rfl, rfl, rfl, rfl, rfl, rfl, trivial⟩⟩, hV.2⟩
 clear hJ_1722
 refine WC.block ?_
 obtain ⟨J_1745, hJ_1746, hV⟩ := hV
 refine WC.meet (fun a w => ∃ (x_1744 : Bool), J_1745 x_1744 ∧ St w0 H (fp_948 ++ (fp_162 ++ (fp_953 ++ L))) w ∧ Fr 111 [(0, v_2), (1, v_947), (5, i6 (order_4.length : Int)), (6, v_161), (9, v_952), (10, i6 k_955), (11, i6 v_1565), (12, i6 i_1567), (81, .bool x_1744)] a) ?_ ?_
 rintro a w ⟨x_1744, hI, hS, ha⟩
 refine in_frame ha ?_
 clear ha hV
 have hV := hJ_1746 _ hI
 clear hI hJ_1746
 refine WC.cond rfl ?_ ?_
 intro hc_1768
 replace hV := hV.1 hc_1768
 refine WC.region ?_
 refine WL.mv rfl rfl ?_
 refine WL.ma rfl rfl ?_
 refine WL.nil ?_
 refine WQ.out nofun ?_
 replace hS := hS.f3.f3.f3
 exact WQ.there fun a ha => ⟨i_1567, hV, hr_1568, hS, ha.of_sub ⟨rfl, rfl, rfl, rfl, rfl, rfl, rfl, rfl, trivial⟩⟩
 intro hc_1768
 replace hV := hV.2 hc_1768
 refine WC.skip ?_
 refine WQ.out nofun ?_
 replace hS := hS.f3.f3.f3
 exact WQ.there fun a ha => ⟨v_1565, hV, hr_1566, hS, ha.of_sub ⟨rfl, rfl, rfl, rfl, rfl, rfl, rfl, rfl, trivial⟩⟩
 clear hJ_1746
 refine WC.quiet (C := St w0 H (fp_948 ++ (fp_162 ++ (fp_953 ++ L)))) Try.mixed (by kernel_rfl) (hS.drawn _) ?_
 clear hS w
 refine Wq.run rfl rfl rfl (ex_move rfl) ?_
 refine Wq.run rfl rfl rfl (ex_move rfl) ?_
 obtain ⟨hin_1747, hV⟩ := hV
 refine Wq.runx rfl rfl rfl (ex_index_own Try.underlying28 Try.sizeOf4 rfl rfl h_954 hin_1747) ?_
 intro p_1748 hp_1749
 refine Wq.runx rfl rfl rfl (exQ (ex_load_own_s Try.isAgg4 rfl rfl h_954 hp_1749 hin_1747) _ (fun _ h => St.f3 h)) ?_
 intro u_1750 hu_1751
 obtain rfl := cBool_rep hu_1751
 refine Wq.run rfl rfl rfl (ex_not rfl) ?_
 refine Wq.run rfl rfl rfl (ex_move rfl) ?_
 rcases Bool.eq_false_or_eq_true (!(ix done_951 i_1567)) with hg_1752 | hg_1752
 replace hV := hV.1 hg_1752
 refine Wq.unguard rfl rfl hg_1752 ?_
 refine Wq.run rfl rfl rfl (ex_move rfl) ?_
 refine Wq.unguard rfl rfl hg_1752 ?_
 refine Wq.run rfl rfl rfl (ex_lss rfl rfl) ?_
 refine Wq.unguard rfl rfl hg_1752 ?_
 refine Wq.run rfl rfl rfl (ex_move rfl) ?_
 rcases Bool.eq_false_or_eq_true (decide (v_1565 < 0)) with hg_1754 | hg_1754
 replace hV := hV.1 (of_decide_eq_true hg_1754)
 refine Wq.skip_g rfl rfl rfl hg_1754 rfl rfl ?_
 refine Wq.skip_g rfl rfl rfl hg_1754 rfl rfl ?_
 refine Wq.skip_g rfl rfl rfl hg_1754 rfl rfl ?_
 refine Wq.skip_g rfl rfl rfl hg_1754 rfl rfl ?_
 refine Wq.skip_g rfl rfl rfl hg_1754 rfl rfl ?_
 refine Wq.skip_g rfl rfl rfl hg_1754 rfl rfl ?_
 refine Wq.skip_g rfl rfl rfl hg_1754 rfl rfl ?_
 refine Wq.skip_g rfl rfl rfl hg_1754 rfl rfl ?_
 refine Wq.skip_g rfl rfl rfl hg_1754 rfl rfl ?_
 refine Wq.unguard rfl rfl hg_1752 ?_
 refine Wq.run rfl rfl rfl (ex_pick_t rfl hg_1754 rfl) ?_
 refine Wq.run rfl rfl rfl (ex_pick_t rfl hg_1752 rfl) ?_
 refine Wq.nil fun w hS => ?_
 replace hS := hS.f3.f3.f3
 exact WQ.there fun a ha => ⟨true, hV, hS, ha.of_sub ⟨rfl, rfl, rfl, rfl, rfl, rfl, rfl, rfl, rfl, trivial⟩⟩
 replace hV := hV.2 (of_decide_eq_false hg_1754)
 refine Wq.unguard rfl rfl hg_1754 ?_
 refine Wq.run rfl rfl rfl (ex_move rfl) ?_
 refine Wq.unguard rfl rfl hg_1754 ?_
 refine Wq.run rfl rfl rfl (ex_move rfl) ?_
 refine Wq.unguard rfl rfl hg_1754 ?_
 obtain ⟨hin_1755, hV⟩ := hV
 refine Wq.runx rfl rfl rfl (ex_index_own Try.underlying27 Try.sizeOf3 rfl rfl h_163 hin_1755) ?_
 intro p_1756 hp_1757
 refine Wq.unguard rfl rfl hg_1754 ?_
 refine Wq.runx rfl rfl rfl (exQ (ex_load_own_s Try.isAgg3 rfl rfl h_163 hp_1757 hin_1755) _ (fun _ h => St.f2 h)) ?_
 intro u_1758 hu_1759
 obtain ⟨rfl, hr_1760⟩ := cInt_rep hu_1759
 replace hr_1760 := has_I64 hr_1760
 replace hV := hV hr_1760
 refine Wq.unguard rfl rfl hg_1754 ?_
 refine Wq.run rfl rfl rfl (ex_move rfl) ?_
 refine Wq.unguard rfl rfl hg_1754 ?_
 refine Wq.run rfl rfl rfl (ex_move rfl) ?_
 refine Wq.unguard rfl rfl hg_1754 ?_
 obtain ⟨hin_1761, hV⟩ := hV
 refine Wq.runx rfl rfl rfl (ex_index_own Try.underlying27 Try.sizeOf3 rfl rfl h_163 hin_1761) ?_
 intro p_1762 hp_1763
 refine Wq.unguard rfl rfl hg_1754 ?_
 refine Wq.runx rfl rfl rfl (exQ (ex_load_own_s Try.isAgg3 rfl rfl h_163 hp_1763 hin_1761) _ (fun _ h => St.f2 h)) ?_
 intro u_1764 hu_1765
 obtain ⟨rfl, hr_1766⟩ := cInt_rep hu_1765
 replace hr_1766 := has_I64 hr_1766
 replace hV := hV hr_1766
 refine Wq.unguard rfl rfl hg_1754 ?_
 refine Wq.run rfl rfl rfl (ex_gtr rfl rfl) ?_
 refine Wq.unguard rfl rfl hg_1752 ?_
 refine Wq.run rfl rfl rfl (ex_pick_f rfl hg_1754 rfl) ?_
 refine Wq.run rfl rfl rfl (ex_pick_t rfl hg_1752 rfl) ?_
 refine Wq.nil fun w hS => ?_
 replace hS := hS.f3.f3.f3
 exact WQ.there fun a ha => ⟨decide ((ix asks_160 v_1565) < (ix asks_160 i_1567)), hV, hS, ha.of_sub ⟨rfl, rfl, rfl, rfl, rfl, rfl, rfl, rfl, rfl, trivial⟩⟩
 replace hV := hV.2 hg_1752
 refine Wq.skip_g rfl rfl rfl hg_1752 rfl rfl ?_
 refine Wq.skip_g rfl rfl rfl hg_1752 rfl rfl ?_
 refine Wq.skip_g rfl rfl rfl hg_1752 rfl rfl ?_
 refine Wq.skip_u rfl rfl rfl rfl rfl ?_
 refine Wq.skip_u rfl rfl rfl rfl rfl ?_
 refine Wq.skip_u rfl rfl rfl rfl rfl ?_
 refine Wq.skip_u rfl rfl rfl rfl rfl ?_
 refine Wq.skip_u rfl rfl rfl rfl rfl ?_
 refine Wq.skip_u rfl rfl rfl rfl rfl ?_
 refine Wq.skip_u rfl rfl rfl rfl rfl ?_
 refine Wq.skip_u rfl rfl rfl rfl rfl ?_
 refine Wq.skip_u rfl rfl rfl rfl rfl ?_
 refine Wq.skip_g rfl rfl rfl hg_1752 rfl rfl ?_
 refine Wq.run rfl rfl rfl (ex_pick_f rfl hg_1752 rfl) ?_
 refine Wq.nil fun w hS => ?_
 replace hS := hS.f3.f3.f3
 exact WQ.there fun a ha => ⟨false, hV, hS, ha.of_sub ⟨rfl, rfl, rfl, rfl, rfl, rfl, rfl, rfl, rfl, trivial⟩⟩
 intro hc_1965
 replace hV := hV.2 (of_decide_eq_false hc_1965)
 refine WC.exit ?_
 refine WQ.pass nofun ?_
 refine WQ.pass nofun ?_
 refine WQ.hit ?_
 refine WQ.next ?_
 refine WC.sr ?_
 refine WL.mv rfl rfl ?_
 refine WL.mv rfl rfl ?_
 obtain ⟨hin_1771, hV⟩ := hV
 refine WL.runx hS rfl rfl rfl (ex_index_own Try.underlying28 Try.sizeOf4 rfl rfl h_954 hin_1771) ?_
 intro p_1772 hp_1773
 replace hS := hS.f3
 refine WL.store_own Try.sizeOf4 rfl rfl rfl cBool_mk hS h_954 hp_1773 hin_1771 ?_
 clear hS
 intro w fp_1775 h_1774 hS
 refine WL.nx ?_
 refine WC.sr ?_
 refine WL.mv rfl rfl ?_
 refine WL.mv rfl rfl ?_
 replace hS := hS.f2
 have hL_1776 := hS.freeze
 refine WL.call rfl rfl rfl (enters0 (vs := [v_947, i6 v_1565]) Try.call60 ⟨rfl, rfl, trivial⟩) (S_without  (h_949.share hS.put_le) hr_1566 hL_1776 hV) ?_
 clear hV
 rintro _ w ⟨r_1777, v_1778, fp_1779, hV, rfl, h_1780, hL_1782⟩
 refine ⟨_, rfl, ?_⟩
 have hB_1784 := hS.back hL_1782
 replace hS := hB_1784
 clear hL_1782 hL_1776 hB_1784
 replace h_1780 := rep_own (K := H) h_1780 (fun _ _ h => h)
 refine WL.ma rfl rfl ?_
 refine WL.nx ?_
 refine WC.sub (m := [(0, v_2), (1, v_947), (5, i6 (order_4.length : Int)), (6, v_161), (9, v_952), (10, i6 k_955), (11, i6 v_1565), (13, v_1778)]) ⟨rfl, rfl, rfl, rfl, rfl, rfl, rfl, rfl, trivial⟩ ?_
 refine WC.sr ?_
 refine WL.ma rfl rfl ?_
 refine WL.nx ?_
 refine WC.sr ?_
 refine WL.ma rfl rfl ?_
 refine WL.nx ?_
 refine WC.block ?_
 replace hS := hS.f2.f3.f4.f4
 obtain ⟨I_1904, mu_1905, hI_1964, hV⟩ := hV
 refine WC.loop (σ := LI × Int × Int) (fun s a w => ∃ (order_1841 : LI) (best_1845 : Int) (p_1847 : Int) (v_1842 : Value) (fp_1843 : Seg), s = (order_1841, best_1845, p_1847) ∧ I_1904 (order_1841, best_1845, p_1847) ∧ OwnSl H (cInt .i64) 3 v_1842 order_1841 fp_1843 ∧ I64 best_1845 ∧ I64 p_1847 ∧ St w0 H (fp_1843 ++ (fp_162 ++ (fp_1775 ++ (fp_1779 ++ L)))) w ∧ Fr 111 [(0, v_2), (1, v_1842), (5, i6 (order_4.length : Int)), (6, v_161), (9, v_952), (10, i6 k_955), (11, i6 v_1565), (13, v_1778), (14, i6 best_1845), (15, i6 p_1847)] a) mu_1905 (order_946, (-1), 0) ?_ ?_
 exact fun a ha => ⟨order_946, (-1), 0, v_947, fp_948, rfl, hI_1964, h_949, (by unfold I64; omega), (by unfold I64; omega), hS, ha.of_sub ⟨rfl, rfl, rfl, rfl, rfl, rfl, rfl, rfl, rfl, rfl, trivial⟩⟩
 clear hS hI_1964
 rintro _ a w ⟨order_1841, best_1845, p_1847, v_1842, fp_1843, rfl, hI, h_1844, hr_1846, hr_1848, hS, ha⟩
 refine in_frame ha ?_
 clear ha
 replace hV := hV _ hI
 clear hI
 refine WC.seq ?_
 refine WC.sr ?_
 refine WL.mv rfl rfl ?_
 refine WL.mv rfl rfl ?_
 refine WL.run hS rfl rfl rfl (ex_lss rfl rfl) ?_
 refine WL.nx ?_
 refine WC.cond rfl ?_ ?_
 intro hc_1963
 replace hV := hV.1 (of_decide_eq_true hc_1963)
 refine WC.skip ?_
 refine WQ.next ?_
 obtain ⟨J_1936, hJ_1937, hV⟩ := hV
 refine WC.meet (fun a w => ∃ (order_1930 : LI) (best_1934 : Int) (v_1931 : Value) (fp_1932 : Seg), J_1936 (order_1930, best_1934) ∧ OwnSl H (cInt .i64) 3 v_1931 order_1930 fp_1932 ∧ I64 best_1934 ∧ St w0 H (fp_1932 ++ (fp_162 ++ (fp_1775 ++ (fp_1779 ++ L)))) w ∧ Fr 111 [(0, v_2), (1, v_1931), (5, i6 (order_4.length : Int)), (6, v_161), (9, v_952), (10, i6 k_955), (11, i6 v_1565), (13, v_1778), (14, i6 best_1934), (15, i6 p_1847)] a) ?_ ?_
 rintro a w ⟨order_1930, best_1934, v_1931, fp_1932, hI, h_1933, hr_1935, hS, ha⟩
 refine in_frame ha ?_
 clear ha hV
 have hV := hJ_1937 _ hI
 clear hI hJ_1937
 refine WC.region ?_
 refine WL.mv rfl rfl ?_
 obtain ⟨hi_1960, hV⟩ := hV
 refine WL.run hS rfl rfl rfl (ex_add rfl rfl hi_1960) ?_
 refine WL.ma rfl rfl ?_
 refine WL.nil ?_
 replace hS := hS.f4.f4.f4.f4
 exact WQ.there fun a ha => ⟨(order_1930, best_1934, (p_1847 + 1)), ⟨order_1930, best_1934, (p_1847 + 1), v_1931, fp_1932, rfl, hV.1, h_1933, hr_1935, hi_1960, hS, ha.of_sub ⟨rfl, rfl, rfl, rfl, rfl, rfl, rfl, rfl, rfl, rfl, trivial⟩⟩, hV.2⟩
 clear hJ_1937
 refine WC.block ?_
 refine WC.sr ?_
 refine WL.mv rfl rfl ?_
 refine WL.mv rfl rfl ?_
 refine WL.mv rfl rfl ?_
 replace hS := hS.f4
 have hL_1938 := hS.freeze
 refine WL.call rfl rfl rfl (enters0 (vs := [v_1778, i6 v_1565, i6 p_1847]) Try.call61 ⟨rfl, rfl, rfl, trivial⟩) (S_rat  (h_1780.share hS.put_le) hr_1566 hr_1848 hL_1938 hV) ?_
 clear hV
 rintro _ w ⟨r_1939, v_1940, fp_1941, hV, rfl, h_1942, hL_1944⟩
 refine ⟨_, rfl, ?_⟩
 have hB_1946 := hS.back hL_1944
 replace hS := hB_1946
 clear hL_1944 hL_1938 hB_1946
 replace h_1942 := rep_own (K := H) h_1942 (fun _ _ h => h)
 refine WL.ma rfl rfl ?_
 refine WL.nx ?_
 refine WC.sr ?_
 refine WL.mv rfl rfl ?_
 refine WL.mv rfl rfl ?_
 replace hS := hS.f2
 have hL_1947 := hS.freeze
 refine WL.call rfl rfl rfl (enters0 (vs := [v_2, v_1940]) Try.call23 ⟨rfl, rfl, trivial⟩) (S_rSize  (h_3.mono hS.put_le) (h_1942.share hS.put_le) hL_1947 hV) ?_
 clear hV
 rintro _ w ⟨r_1948, hV, rfl, hr_1949, hL_1950⟩
 refine ⟨_, rfl, ?_⟩
 have hB_1952 := hS.back hL_1950
 replace hS := hB_1952
 clear hL_1950 hL_1947 hB_1952
 refine WL.ma rfl rfl ?_
 refine WL.nx ?_
 refine WC.sub (m := [(0, v_2), (1, v_1842), (5, i6 (order_4.length : Int)), (6, v_161), (9, v_952), (10, i6 k_955), (11, i6 v_1565), (13, v_1778), (14, i6 best_1845), (15, i6 p_1847), (16, v_1940), (17, i6 r_1948)]) ⟨rfl, rfl, rfl, rfl, rfl, rfl, rfl, rfl, rfl, rfl, rfl, rfl, trivial⟩ ?_
 refine WC.seq ?_
 refine WC.via (m := [(0, v_2), (1, v_1842), (5, i6 (order_4.length : Int)), (6, v_161), (9, v_952), (10, i6 k_955), (11, i6 v_1565), (13, v_1778), (14, i6 best_1845), (15, i6 p_1847), (16, v_1940), (17, i6 r_1948), (107, .bool (decide ((best_1845 < 0) ∨ (r_1948 < best_1845))))]) ?_ ?_
 refine WC.region ?_
 refine WL.mv rfl rfl ?_
 refine WL.run hS rfl rfl rfl (ex_lss rfl rfl) ?_
 refine WL.mv rfl rfl ?_
 rcases Bool.eq_false_or_eq_true (decide (best_1845 < 0)) with hg_1956 | hg_1956
 refine WL.skip_g rfl rfl rfl hg_1956 rfl rfl ?_
 refine WL.skip_g rfl rfl rfl hg_1956 rfl rfl ?_
 refine WL.skip_g rfl rfl rfl hg_1956 rfl rfl ?_
 refine WL.run hS rfl rfl rfl (ex_pick_t rfl hg_1956 rfl) ?_
 refine WL.sub (m := [(0, v_2), (1, v_1842), (5, i6 (order_4.length : Int)), (6, v_161), (9, v_952), (10, i6 k_955), (11, i6 v_1565), (13, v_1778), (14, i6 best_1845), (15, i6 p_1847), (16, v_1940), (17, i6 r_1948), (101, i6 best_1845), (102, .bool (decide (best_1845 < 0))), (103, .bool (decide (best_1845 < 0))), (104, undef), (105, undef), (106, undef), (107, .bool (decide ((best_1845 < 0) ∨ (r_1948 < best_1845))))]) ⟨rfl, rfl, rfl, rfl, rfl, rfl, rfl, rfl, rfl, rfl, rfl, rfl, rfl, rfl, rfl, rfl, rfl, rfl, congrArg (fun b => some (Value.bool b)) (or_t hg_1956 : true = decide ((best_1845 < 0) ∨ (r_1948 < best_1845))), trivial⟩ ?_
 exact WL.nil (At.of ⟨rfl, rfl, rfl, rfl, rfl, rfl, rfl, rfl, rfl, rfl, rfl, rfl, rfl, trivial⟩)
 refine WL.unguard rfl rfl hg_1956 ?_
 refine WL.mv rfl rfl ?_
 refine WL.unguard rfl rfl hg_1956 ?_
 refine WL.mv rfl rfl ?_
 refine WL.unguard rfl rfl hg_1956 ?_
 refine WL.run hS rfl rfl rfl (ex_lss rfl rfl) ?_
 refine WL.run hS rfl rfl rfl (ex_pick_f rfl hg_1956 rfl) ?_
 refine WL.sub (m := [(0, v_2), (1, v_1842), (5, i6 (order_4.length : Int)), (6, v_161), (9, v_952), (10, i6 k_955), (11, i6 v_1565), (13, v_1778), (14, i6 best_1845), (15, i6 p_1847), (16, v_1940), (17, i6 r_1948), (101, i6 best_1845), (102, .bool (decide (best_1845 < 0))), (103, .bool (decide (best_1845 < 0))), (104, i6 r_1948), (105, i6 best_1845), (106, .bool (decide (r_1948 < best_1845))), (107, .bool (decide ((best_1845 < 0) ∨ (r_1948 < best_1845))))]) ⟨rfl, rfl, rfl, rfl, rfl, rfl, rfl, rfl, rfl, rfl, rfl, rfl, rfl, rfl, rfl, rfl, rfl, rfl, congrArg (fun b => some (Value.bool b)) (or_f hg_1956 : decide (r_1948 < best_1845) = decide ((best_1845 < 0) ∨ (r_1948 < best_1845))), trivial⟩ ?_
 exact WL.nil (At.of ⟨rfl, rfl, rfl, rfl, rfl, rfl, rfl, rfl, rfl, rfl, rfl, rfl, rfl, trivial⟩)
 refine WQ.next ?_
 refine WC.cond rfl ?_ ?_
 intro hc_1958
 replace hV := hV.1 (of_decide_eq_true hc_1958)
 refine WC.sr ?_
 refine WL.mv rfl rfl ?_
 refine WL.ma rfl rfl ?_
 refine WL.nx ?_
 replace hS := hS.f3.drop
 refine WC.region ?_
 refine WL.mv rfl rfl ?_
 refine WL.ma rfl rfl ?_
 refine WL.nil ?_
 refine WQ.out nofun ?_
 replace hS := hS.f2.f4.f4.f4
 exact WQ.there fun a ha => ⟨r_1939, r_1948, v_1940, fp_1941, hV, h_1942, hr_1949, hS, ha.of_sub ⟨rfl, rfl, rfl, rfl, rfl, rfl, rfl, rfl, rfl, rfl, trivial⟩⟩
 intro hc_1958
 replace hV := hV.2 (of_decide_eq_false hc_1958)
 refine WC.skip ?_
 refine WQ.out nofun ?_
 replace hS := hS.drop
 replace hS := hS.f4.f4.f4
 exact WQ.there fun a ha => ⟨order_1841, best_1845, v_1842, fp_1843, hV, h_1844, hr_1846, hS, ha.of_sub ⟨rfl, rfl, rfl, rfl, rfl, rfl, rfl, rfl, rfl, rfl, trivial⟩⟩
 intro hc_1963
 replace hV := hV.2 (of_decide_eq_false hc_1963)
 refine WC.exit ?_
 refine WQ.pass nofun ?_
 refine WQ.pass nofun ?_
 refine WQ.hit ?_
 refine WQ.out nofun ?_
 refine WQ.next ?_
 replace hS := hS.f4.drop
 refine WC.region ?_
 refine WL.mv rfl rfl ?_
 obtain ⟨hi_1962, hV⟩ := hV
 refine WL.run hS rfl rfl rfl (ex_add rfl rfl hi_1962) ?_
 refine WL.ma rfl rfl ?_
 refine WL.nil ?_
 replace hS := hS.f3.f3.f3
 exact WQ.there fun a ha => ⟨(order_1841, (done_951.set v_1565.toNat true), (k_955 + 1)), ⟨order_1841, (done_951.set v_1565.toNat true), (k_955 + 1), v_1842, fp_1843, v_952, fp_1775, rfl, hV.1, h_1844, h_1774, hi_1962, hS, ha.of_sub ⟨rfl, rfl, rfl, rfl, rfl, rfl, trivial⟩⟩, hV.2⟩
 intro hc_1967
 replace hV := hV.2 (of_decide_eq_false hc_1967)
 refine WC.exit ?_
 refine WQ.pass nofun ?_
 refine WQ.pass nofun ?_
 refine WQ.hit ?_
 refine WQ.next ?_
 replace hS := hS.f2.drop
 replace hS := hS.f2.drop
 refine WC.sr ?_
 refine WL.mv rfl rfl ?_
 refine WL.ma rfl rfl ?_
 refine WL.nx ?_
 refine WC.sub (m := [(4, v_947)]) ⟨rfl, trivial⟩ ?_
 refine WC.ret ?_
 exact leave1 rfl rfl ⟨order_946, v_947, fp_948, hV, rfl, h_949, hS⟩

theorem S_pick {w0 : World} {H : View} {L : Seg} {w : World} {c_1 : Int} {n_3 : Int} {Q : Int → Prop} (hr_2 : I64 c_1) (hr_4 : I64 n_3) (hS : St w0 H (L) w) (hV : V_pick c_1 n_3 Q) :
 Calls Try.prog 17 #[i6 c_1, i6 n_3] w fun e w' => ∃ (r1 : Int), Q r1 ∧ e = .returned (i6 r1) ∧ I64 r1 ∧ St w0 H (L) w' := by
 unfold V_pick at hV
 refine enter Try.func17 rfl Try.ntmps17 rfl (lk_args_cons (d := 0) (v := i6 c_1) rfl (lk_args_cons (d := 1) (v := i6 n_3) rfl (lk_args_nil _))) ?_
 refine WC.sr ?_
 refine WL.ma rfl rfl ?_
 refine WL.nx ?_
 obtain ⟨J_12, hJ_13, hV⟩ := hV
 refine WC.meet (fun a w => ∃ (c_10 : Int), J_12 c_10 ∧ I64 c_10 ∧ St w0 H (L) w ∧ Fr 13 [(0, i6 c_10), (1, i6 n_3)] a) ?_ ?_
 rintro a w ⟨c_10, hI, hr_11, hS, ha⟩
 refine in_frame ha ?_
 clear ha hV
 have hV := hJ_13 _ hI
 clear hI hJ_13
 refine WC.sr ?_
 refine WL.mv rfl rfl ?_
 refine WL.mv rfl rfl ?_
 obtain ⟨hi_19, hV⟩ := hV
 refine WL.run hS rfl rfl rfl (ex_rem rfl rfl hi_19) ?_
 refine WL.ma rfl rfl ?_
 refine WL.nx ?_
 refine WC.ret ?_
 exact leave1 rfl rfl ⟨(c_10.tmod n_3), hV, rfl, (I64.tmod hr_11), hS⟩
 clear hJ_13
 refine WC.sr ?_
 refine WL.mv rfl rfl ?_
 refine WL.run hS rfl rfl rfl (ex_lss rfl rfl) ?_
 refine WL.nx ?_
 refine WC.cond rfl ?_ ?_
 intro hc_18
 replace hV := hV.1 (of_decide_eq_true hc_18)
 refine WC.region ?_
 refine WL.mv rfl rfl ?_
 obtain ⟨hi_16, hV⟩ := hV
 refine WL.run hS rfl rfl rfl (ex_add rfl rfl hi_16) ?_
 obtain ⟨hi_17, hV⟩ := hV
 refine WL.run hS rfl rfl rfl (ex_neg rfl hi_17) ?_
 refine WL.ma rfl rfl ?_
 refine WL.nil ?_
 exact WQ.there fun a ha => ⟨(-(c_1 + 1)), hV, hi_17, hS, ha.of_sub ⟨rfl, rfl, trivial⟩⟩
 intro hc_18
 replace hV := hV.2 (of_decide_eq_false hc_18)
 refine WC.skip ?_
 exact WQ.there fun a ha => ⟨c_1, hV, hr_2, hS, ha.of_sub ⟨rfl, rfl, trivial⟩⟩

end Go.Proofs.Ytceipmldngeagaa
