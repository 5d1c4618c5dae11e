/- For each function: called, it does its work where its condition is so. Printed by program. -/
import Derived.Test.YtlhkfkecoekoeaaGreatDoorFacts
import Derived.Test.YtlhkfkecoekoeaaGreatDoorConds
import Derived.Test.YtlhkfkecoekoeaaGreatDoorShv
import Derived.Test.YtlhkfkecoekoeaaGreatDoorWalks3
set_option linter.unusedVariables false
set_option linter.unusedSimpArgs false
set_option maxRecDepth 100000
set_option maxHeartbeats 1000000
namespace Go.Proofs.YtlhkfkecoekoeaaGreatDoor
open Go.Vc
theorem S_value2 {G : Str → Int → Int → Bool → (Int → Int → Prop) → (Val → Int → Int → Bool → Prop) → Prop} (hG : H_value G) {w0 : World} {H : View} {L : Seg} {w : World} {b_2 : Nat} {v_5 : Value} {c_1_4 : List (Val)} {fp_7 : Seg} {b_10 : Nat} {b_13 : Nat} {text_15 : Str} {xat_16 : Int} {deep_18 : Int} {heavy_20 : Bool} {b_22 : Nat} {b_26 : Nat} {v_29 : Value} {c_25_28 : List (Val)} {fp_31 : Seg} {E : Int → Int → Prop} {Q : (List (Val)) → Int → Int → Bool → (List (Val)) → Prop} (h_6 : OwnSl H cV 25 v_5 c_1_4 fp_7) (hr_17 : I64 xat_16) (hr_19 : I64 deep_18) (h_30 : OwnSl H cV 25 v_29 c_25_28 fp_31) (hN : GlobN w0 H) (hS : St w0 H ([(b_2, oc #[v_5] 42)] ++ (fp_7 ++ ([(b_10, oc #[(pq b_13)] 60)] ++ ([(b_13, oc #[sv text_15, i6 xat_16, i6 deep_18, .bool heavy_20] 62)] ++ ([(b_22, Obj.cells #[.func (.func 56) #[] #[(pq b_26), (pq b_10)]] 1 (0, 0))] ++ ([(b_26, oc #[v_29] 42)] ++ (fp_31 ++ L))))))) w) (hV : V_value2 G c_1_4 text_15 xat_16 deep_18 heavy_20 c_25_28 E Q) :
 Calls Tryz.prog 63 #[(pq b_2), (pq b_10), (pq b_22)] w fun e w' => (∃ (r1 : List (Val)) (r2 : Int) (r3 : Int) (r4 : Bool) (r5 : List (Val)) (v1 : Value) (fp1 : Seg) (v5 : Value) (fp5 : Seg) (H' : View), Q r1 r2 r3 r4 r5 ∧ e = .returned (.tuple #[]) ∧ View.le H H' ∧ OwnSl H' cV 25 v1 r1 fp1 ∧ I64 r2 ∧ I64 r3 ∧ OwnSl H' cV 25 v5 r5 fp5 ∧ St w0 H' ([(b_2, oc #[v1] 42)] ++ (fp1 ++ ([(b_10, oc #[(pq b_13)] 60)] ++ ([(b_13, oc #[sv text_15, i6 r2, i6 r3, .bool r4] 62)] ++ ([(b_22, Obj.cells #[.func (.func 56) #[] #[(pq b_26), (pq b_10)]] 1 (0, 0))] ++ ([(b_26, oc #[v5] 42)] ++ (fp5 ++ L))))))) w') ∨ (∃ e1 a1, E e1 a1 ∧ e = .panicked (faultC e1 a1) ∧ ∃ H1, View.le H H1 ∧ St w0 H1 L w') := by
 unfold V_value2 at hV
 refine enter Tryz.func63 rfl Tryz.ntmps63 rfl (lk_args_cons (d := 0) (v := (pq b_2)) rfl (lk_args_cons (d := 1) (v := (pq b_10)) rfl (lk_args_cons (d := 2) (v := (pq b_22)) rfl (lk_args_nil _)))) ?_
 refine WC.seq ?_
 refine DP.WC.drawn (σ := [0, 1, 2, 3, 4, 5]) (C := St w0 H ([(b_2, oc #[v_5] 42)] ++ (fp_7 ++ ([(b_10, oc #[(pq b_13)] 60)] ++ ([(b_13, oc #[sv text_15, i6 xat_16, i6 deep_18, .bool heavy_20] 62)] ++ ([(b_22, Obj.cells #[.func (.func 56) #[] #[(pq b_26), (pq b_10)]] 1 (0, 0))] ++ ([(b_26, oc #[v_29] 42)] ++ (fp_31 ++ L)))))))) (Pn := fun c w => ∃ e1 a1, E e1 a1 ∧ Ending.panicked c = .panicked (faultC e1 a1) ∧ ∃ H1, View.le H H1 ∧ St w0 H1 L w) [[], [], [1], [1, 2], [0, 1, 2, 3], [0, 1, 2, 3, 4]] [2, 3, 4, 5] (fun c a w hd hp => And.intro hd (.inr hp)) Tryz.mixed (by kernel_rfl) (hS.drawn _) ?_
 clear hS w
 refine DP.Wd.runb (off := 0) rfl rfl rfl rfl (fun _ _ _ h => ex_load_box Tryz.isAgg42 rfl h) rfl (fun _ h => h) fun q_35 hq_34 => ?_
 refine DP.Wd.runb (off := 0) rfl rfl rfl rfl (fun _ _ _ h => ex_load_box Tryz.isAgg60 rfl h) rfl (fun _ h => St.f3 h) fun q_37 hq_36 => ?_
 refine DP.Wd.turn rfl rfl rfl fun w hS => ?_
 replace hS := hS.f4
 refine WL.callP rfl rfl rfl (enters0 (vs := [(pq b_13)]) Tryz.call23 ⟨rfl, trivial⟩) (hG hr_17 hr_19 hN hS hV) (by rintro _ w ⟨e_48, xat_49, hE_50, rfl, H_51, le_52, hS⟩; exact ⟨_, rfl, DP.DQ.pan ⟨e_48, xat_49, hE_50, rfl, _, ((View.le.refl _).trans le_52), hS.drop.drop.drop.drop.drop.drop⟩⟩) ?_
 clear hV hS
 rintro _ w ⟨r_38, r_41, r_43, r_45, u_39, H_46, hV, rfl, le_47, h_40, hr_42, hr_44, hS⟩
 refine ⟨_, rfl, ?_⟩
 refine WL.nil (DP.DQ.mk2 (C' := St w0 H_46 ([(b_13, oc #[sv text_15, i6 r_41, i6 r_43, .bool r_45] 62)] ++ ([(b_2, oc #[v_5] 42)] ++ (fp_7 ++ ([(b_10, oc #[(pq b_13)] 60)] ++ ([(b_22, Obj.cells #[.func (.func 56) #[] #[(pq b_26), (pq b_10)]] 1 (0, 0))] ++ ([(b_26, oc #[v_29] 42)] ++ (fp_31 ++ L)))))))) hS ⟨il, .inr (hq_34 H_46 ([(b_13, oc #[sv text_15, i6 r_41, i6 r_43, .bool r_45] 62)] ++ (fp_7 ++ ([(b_10, oc #[(pq b_13)] 60)] ++ ([(b_22, Obj.cells #[.func (.func 56) #[] #[(pq b_26), (pq b_10)]] 1 (0, 0))] ++ ([(b_26, oc #[v_29] 42)] ++ (fp_31 ++ L)))))) #[v_5] _ rfl (fun _ h => St.f2 h)), trivial⟩ ?_)
 clear hS w
 refine DP.Wd.turn rfl rfl rfl fun w hS => ?_
 refine WL.builds (c := cV) (xs := [r_38]) (vs := [.agg #[u_39]]) (css := [[u_39]]) rfl Tryz.underlying42 Tryz.info25 rfl ⟨rfl, trivial⟩ rfl (by decide) rfl (by simp; rfl) ⟨[u_39], _, rfl, (cV_mk h_40), rfl⟩ hS rfl (by decide) ?_
 clear hS
 intro v_54 w fp_55 h_56 hS
 refine WL.nil (DP.DQ.mk2 (C' := St w0 H_46 (fp_55 ++ ([(b_13, oc #[sv text_15, i6 r_41, i6 r_43, .bool r_45] 62)] ++ ([(b_2, oc #[v_5] 42)] ++ (fp_7 ++ ([(b_10, oc #[(pq b_13)] 60)] ++ ([(b_22, Obj.cells #[.func (.func 56) #[] #[(pq b_26), (pq b_10)]] 1 (0, 0))] ++ ([(b_26, oc #[v_29] 42)] ++ (fp_31 ++ L))))))))) hS ⟨il, .inr (hq_34 H_46 (fp_55 ++ ([(b_13, oc #[sv text_15, i6 r_41, i6 r_43, .bool r_45] 62)] ++ (fp_7 ++ ([(b_10, oc #[(pq b_13)] 60)] ++ ([(b_22, Obj.cells #[.func (.func 56) #[] #[(pq b_26), (pq b_10)]] 1 (0, 0))] ++ ([(b_26, oc #[v_29] 42)] ++ (fp_31 ++ L))))))) #[v_5] _ rfl (fun _ h => St.f3 h)), trivial⟩ ?_)
 clear hS w
 refine DP.Wd.turn rfl rfl rfl fun w hS => ?_
 obtain ⟨hr_57, hV⟩ := hV
 replace hS := hS.f4
 refine WL.append (c := cV) (xs := c_1_4) (ys := ([r_38])) rfl Tryz.underlying42 Tryz.info25 rfl rfl rfl hS (h_6.mono le_47) (h_56.src hS.f2) hr_57.1 hr_57.2 ?_
 clear hS
 intro v_58 w fp_59 h_60 hS
 refine WL.nil (DP.DQ.mk2 (C' := St w0 H_46 (fp_59 ++ (fp_55 ++ ([(b_13, oc #[sv text_15, i6 r_41, i6 r_43, .bool r_45] 62)] ++ ([(b_2, oc #[v_5] 42)] ++ ([(b_10, oc #[(pq b_13)] 60)] ++ ([(b_22, Obj.cells #[.func (.func 56) #[] #[(pq b_26), (pq b_10)]] 1 (0, 0))] ++ ([(b_26, oc #[v_29] 42)] ++ (fp_31 ++ L))))))))) hS ⟨il, il, trivial⟩ ?_)
 clear hS w
 refine DP.Wd.turn rfl rfl rfl fun w hS => ?_
 replace hS := hS.f4
 refine WL.store_box (pre := []) (old := [v_5]) (rst := []) (cs := [v_58]) (arr' := #[v_58]) Tryz.sizeOf42 rfl rfl (congrArg Array.toList (cells_one (OwnSl.one h_60))) ⟨(OwnSl.one h_60), trivial⟩ rfl rfl rfl rfl hS ?_
 clear hS
 intro w hS
 refine WL.nil (DP.DQ.mk2 (C' := St w0 H_46 ([(b_2, oc #[v_58] 42)] ++ (fp_59 ++ (fp_55 ++ ([(b_13, oc #[sv text_15, i6 r_41, i6 r_43, .bool r_45] 62)] ++ ([(b_10, oc #[(pq b_13)] 60)] ++ ([(b_22, Obj.cells #[.func (.func 56) #[] #[(pq b_26), (pq b_10)]] 1 (0, 0))] ++ ([(b_26, oc #[v_29] 42)] ++ (fp_31 ++ L))))))))) hS ⟨il, il, trivial⟩ ?_)
 clear hS w
 refine DP.Wd.nil fun w hS => ?_
 refine WQ.next ?_
 replace hS := hS.f3.drop
 refine WC.sr ?_
 replace hS := hS.f4
 refine WL.run hS rfl rfl rfl (ex_load_box Tryz.isAgg60 rfl rfl) ?_
 replace hS := hS.f4
 refine WL.callP rfl rfl rfl (enters0 (vs := [(pq b_13), sv ([58] : Str)]) Tryz.call64 ⟨rfl, rfl, trivial⟩) (S_want hr_42 hr_44 hS hV) (by rintro _ w ⟨e_65, xat_66, hE_67, rfl, H_68, le_69, hS⟩; exact ⟨_, rfl, WQ.of fun a ha => And.intro ha.defers (.inr ⟨e_65, xat_66, hE_67, rfl, _, (((View.le.refl _).trans le_47).trans le_69), hS.drop.drop.drop.drop.drop.drop⟩)⟩) ?_
 clear hV hS
 rintro _ w ⟨r_62, hV, rfl, hr_63, hS⟩
 refine ⟨_, rfl, ?_⟩
 refine WL.nx ?_
 refine WC.region ?_
 replace hS := hS.f5
 refine WL.run hS rfl rfl rfl (ex_load_box Tryz.isAgg1 rfl rfl) ?_
 replace hS := hS.f2.f3.f7.f7
 refine WL.callP rfl rfl rfl (enters_c (vs := []) (caps := [(pq b_26), (pq b_10)]) rfl Tryz.call56 trivial) (S_value1 (@hG) (h_30.mono le_47) hr_63 hr_44 (hN.mono le_47) hS hV) (by rintro _ w ⟨e_81, xat_82, hE_83, rfl, H_84, le_85, hS⟩; exact ⟨_, rfl, WQ.of fun a ha => And.intro ha.defers (.inr ⟨e_81, xat_82, hE_83, rfl, _, (((View.le.refl _).trans le_47).trans le_85), hS.drop.drop.drop⟩)⟩) ?_
 clear hV hS
 rintro _ w ⟨c_70, r_74, r_76, r_78, v_71, fp_72, H_79, hV, rfl, le_80, h_73, hr_75, hr_77, hS⟩
 refine ⟨_, rfl, ?_⟩
 refine WL.nil ?_
 replace hS := hS.f2.f2.f5.f5.f5.f7.f7
 exact leave0 (.inr rfl) rfl (.inl ⟨(c_1_4 ++ ([r_38])), r_74, r_76, r_78, c_70, v_58, fp_59, v_71, fp_72, H_79, hV, rfl, (((View.le.refl _).trans le_47).trans le_80), (h_60.mono le_80), hr_75, hr_77, h_73, hS⟩)

theorem S_list {G : Str → Int → Int → Bool → (Int → Int → Prop) → (Val → Int → Int → Bool → Prop) → Prop} (hG : H_value G) {w0 : World} {H : View} {L : Seg} {w : World} {b_2 : Nat} {text_4 : Str} {xat_5 : Int} {deep_7 : Int} {heavy_9 : Bool} {last_10 : Str} {b_13 : Nat} {v_16 : Value} {c_12_15 : List (Val)} {fp_18 : Seg} {b_21 : Nat} {E : Int → Int → Prop} {Q : Int → Int → Bool → (List (Val)) → Prop} (hr_6 : I64 xat_5) (hr_8 : I64 deep_7) (h_17 : OwnSl H cV 25 v_16 c_12_15 fp_18) (hN : GlobN w0 H) (hS : St w0 H ([(b_2, oc #[sv text_4, i6 xat_5, i6 deep_7, .bool heavy_9] 62)] ++ ([(b_13, oc #[v_16] 42)] ++ (fp_18 ++ ([(b_21, oc #[(pq b_2)] 60)] ++ L)))) w) (hV : V_list G text_4 xat_5 deep_7 heavy_9 last_10 c_12_15 E Q) :
 Calls Tryz.prog 58 #[(pq b_2), sv last_10, .func (.func 56) #[] #[(pq b_13), (pq b_21)]] w fun e w' => (∃ (r1 : Int) (r2 : Int) (r3 : Bool) (r4 : List (Val)) (v4 : Value) (fp4 : Seg) (H' : View), Q r1 r2 r3 r4 ∧ e = .returned (.tuple #[]) ∧ View.le H H' ∧ I64 r1 ∧ I64 r2 ∧ OwnSl H' cV 25 v4 r4 fp4 ∧ St w0 H' ([(b_2, oc #[sv text_4, i6 r1, i6 r2, .bool r3] 62)] ++ ([(b_13, oc #[v4] 42)] ++ (fp4 ++ ([(b_21, oc #[(pq b_2)] 60)] ++ L)))) w') ∨ (∃ e1 a1, E e1 a1 ∧ e = .panicked (faultC e1 a1) ∧ ∃ H1, View.le H H1 ∧ St w0 H1 L w') := by
 unfold V_list at hV
 refine enter Tryz.func58 rfl Tryz.ntmps58 rfl (lk_args_cons (d := 0) (v := (pq b_2)) rfl (lk_args_cons (d := 1) (v := sv last_10) rfl (lk_args_cons (d := 2) (v := .func (.func 56) #[] #[(pq b_13), (pq b_21)]) rfl (lk_args_nil _)))) ?_
 obtain ⟨J_36, hJ_37, hV⟩ := hV
 refine WC.meet (fun a w => ∃ (c_34 : Int), J_36 c_34 ∧ I64 c_34 ∧ St w0 H ([(b_2, oc #[sv text_4, i6 xat_5, i6 c_34, .bool heavy_9] 62)] ++ ([(b_13, oc #[v_16] 42)] ++ (fp_18 ++ ([(b_21, oc #[(pq b_2)] 60)] ++ L)))) w ∧ Fr 49 [(0, (pq b_2)), (1, sv last_10), (2, .func (.func 56) #[] #[(pq b_13), (pq b_21)])] a) ?_ ?_
 rintro a w ⟨c_34, hI, hr_35, hS, ha⟩
 refine in_frame ha ?_
 clear ha hV
 have hV := hJ_37 _ hI
 clear hI hJ_37
 refine WC.sr ?_
 refine WL.mv rfl rfl ?_
 refine WL.run hS rfl rfl rfl (ex_nilCheck rfl) ?_
 refine WL.run hS rfl rfl rfl (ex_fieldAddr (o' := 1) Tryz.underlying62 rfl Tryz.sizeOf3 rfl rfl) ?_
 refine WL.run hS rfl rfl rfl (ex_load_box Tryz.isAgg3 rfl rfl) ?_
 refine WL.mv rfl rfl ?_
 obtain ⟨hl_48, hV⟩ := hV
 refine WL.run hS rfl rfl rfl (ex_s_len Tryz.underlying9 rfl) ?_
 obtain ⟨hi_50, hV⟩ := hV
 refine WL.run hS rfl rfl rfl (ex_add rfl rfl hi_50) ?_
 refine WL.run hS rfl rfl rfl (ex_nilCheck rfl) ?_
 refine WL.run hS rfl rfl rfl (ex_fieldAddr (o' := 1) Tryz.underlying62 rfl Tryz.sizeOf3 rfl rfl) ?_
 refine WL.store_box (pre := [sv text_4]) (old := [i6 xat_5]) (rst := [i6 c_34, .bool heavy_9]) (cs := [i6 (xat_5 + (last_10.length : Int))]) (arr' := #[sv text_4, i6 (xat_5 + (last_10.length : Int)), i6 c_34, .bool heavy_9]) Tryz.sizeOf3 rfl rfl rfl ⟨rfl, trivial⟩ rfl rfl rfl rfl hS ?_
 clear hS
 intro w hS
 refine WL.nx ?_
 obtain ⟨J_199, hJ_200, hV⟩ := hV
 refine WC.meet (fun a w => ∃ (c_189 : Int) (c_191 : Int) (c_193 : Bool) (c_195 : List (Val)) (H_187 : View) (v_196 : Value) (fp_197 : Seg), J_199 (c_189, c_191, c_193, c_195) ∧ View.le H H_187 ∧ I64 c_189 ∧ I64 c_191 ∧ OwnSl H_187 cV 25 v_196 c_195 fp_197 ∧ St w0 H_187 ([(b_2, oc #[sv text_4, i6 c_189, i6 c_191, .bool c_193] 62)] ++ ([(b_13, oc #[v_196] 42)] ++ (fp_197 ++ ([(b_21, oc #[(pq b_2)] 60)] ++ L)))) w ∧ Fr 49 [(0, (pq b_2))] a) ?_ ?_
 rintro a w ⟨c_189, c_191, c_193, c_195, H_187, v_196, fp_197, hI, le_188, hr_190, hr_192, h_198, hS, ha⟩
 refine in_frame ha ?_
 clear ha hV
 have hV := hJ_200 _ hI
 clear hI hJ_200
 refine WC.region ?_
 refine WL.mv rfl rfl ?_
 refine WL.run hS rfl rfl rfl (ex_nilCheck rfl) ?_
 refine WL.run hS rfl rfl rfl (ex_fieldAddr (o' := 2) Tryz.underlying62 rfl Tryz.sizeOf3 rfl rfl) ?_
 refine WL.run hS rfl rfl rfl (ex_load_box Tryz.isAgg3 rfl rfl) ?_
 obtain ⟨hi_338, hV⟩ := hV
 refine WL.run hS rfl rfl rfl (ex_sub rfl rfl hi_338) ?_
 refine WL.run hS rfl rfl rfl (ex_nilCheck rfl) ?_
 refine WL.run hS rfl rfl rfl (ex_fieldAddr (o' := 2) Tryz.underlying62 rfl Tryz.sizeOf3 rfl rfl) ?_
 refine WL.store_box (pre := [sv text_4, i6 c_189]) (old := [i6 c_191]) (rst := [.bool c_193]) (cs := [i6 (c_191 - (1 : Int))]) (arr' := #[sv text_4, i6 c_189, i6 (c_191 - (1 : Int)), .bool c_193]) Tryz.sizeOf3 rfl rfl rfl ⟨rfl, trivial⟩ rfl rfl rfl rfl hS ?_
 clear hS
 intro w hS
 refine WL.nil ?_
 replace hS := hS.f4.f4.f4.f4
 exact leave0 (.inr rfl) rfl (.inl ⟨c_189, (c_191 - (1 : Int)), c_193, c_195, v_196, fp_197, H_187, hV, rfl, ((View.le.refl _).trans le_188), hr_190, hi_338, h_198, hS⟩)
 clear hJ_200
 refine WC.sr ?_
 refine WL.mv rfl rfl ?_
 refine WL.mv rfl rfl ?_
 refine WL.call rfl rfl rfl (enters0 (vs := [(pq b_2), sv last_10]) Tryz.call95 ⟨rfl, rfl, trivial⟩) (S_take hi_50 hr_35 hS hV) ?_
 clear hV hS
 rintro _ w ⟨r_201, r_202, hV, rfl, hr_203, hS⟩
 refine ⟨_, rfl, ?_⟩
 refine WL.run hS rfl rfl rfl (ex_not rfl) ?_
 refine WL.nx ?_
 refine WC.sub (m := [(0, (pq b_2)), (1, sv last_10), (2, .func (.func 56) #[] #[(pq b_13), (pq b_21)]), (32, .bool (!r_201))]) ⟨rfl, rfl, rfl, rfl, trivial⟩ ?_
 refine WC.cond rfl ?_ ?_
 intro hc_336
 replace hV := hV.1 hc_336
 refine WC.sr ?_
 refine WL.mv rfl rfl ?_
 replace hS := hS.f4.f4.f4
 refine WL.callP rfl rfl rfl (enters_c (vs := []) (caps := [(pq b_13), (pq b_21)]) rfl Tryz.call56 trivial) (S_value1 (@hG) h_17 hr_203 hr_35 hN hS hV) (by rintro _ w ⟨e_216, xat_217, hE_218, rfl, H_219, le_220, hS⟩; exact ⟨_, rfl, WQ.of fun a ha => And.intro ha.defers (.inr ⟨e_216, xat_217, hE_218, rfl, _, ((View.le.refl _).trans le_220), hS⟩)⟩) ?_
 clear hV hS
 rintro _ w ⟨c_205, r_209, r_211, r_213, v_206, fp_207, H_214, hV, rfl, le_215, h_208, hr_210, hr_212, hS⟩
 refine ⟨_, rfl, ?_⟩
 refine WL.nx ?_
 refine WC.seq ?_
 refine WC.block ?_
 replace hS := hS.f3.f3.f3.f4
 obtain ⟨I_302, mu_303, hI_335, hV⟩ := hV
 refine WC.loop (σ := Int × Int × Bool × (List (Val))) (fun s a w => ∃ (c_270 : Int) (c_272 : Int) (c_274 : Bool) (c_276 : List (Val)) (H_268 : View) (v_277 : Value) (fp_278 : Seg), s = (c_270, c_272, c_274, c_276) ∧ I_302 (c_270, c_272, c_274, c_276) ∧ View.le H_214 H_268 ∧ I64 c_270 ∧ I64 c_272 ∧ OwnSl H_268 cV 25 v_277 c_276 fp_278 ∧ St w0 H_268 ([(b_2, oc #[sv text_4, i6 c_270, i6 c_272, .bool c_274] 62)] ++ ([(b_13, oc #[v_277] 42)] ++ (fp_278 ++ ([(b_21, oc #[(pq b_2)] 60)] ++ L)))) w ∧ Fr 49 [(0, (pq b_2)), (1, sv last_10), (2, .func (.func 56) #[] #[(pq b_13), (pq b_21)])] a) mu_303 (r_209, r_211, r_213, c_205) ?_ ?_
 exact fun a ha => ⟨r_209, r_211, r_213, c_205, H_214, v_206, fp_207, rfl, hI_335, (View.le.refl _), hr_210, hr_212, h_208, hS, ha.of_sub ⟨rfl, rfl, rfl, trivial⟩⟩
 clear hS hI_335
 rintro _ a w ⟨c_270, c_272, c_274, c_276, H_268, v_277, fp_278, rfl, hI, le_269, hr_271, hr_273, h_279, hS, ha⟩
 refine in_frame ha ?_
 clear ha
 replace hV := hV _ hI
 clear hI
 refine WC.seq ?_
 refine WC.sr ?_
 refine WL.mv rfl rfl ?_
 refine WL.call rfl rfl rfl (enters0 (vs := [(pq b_2), sv ([44] : Str)]) Tryz.call95 ⟨rfl, rfl, trivial⟩) (S_take hr_271 hr_273 hS hV) ?_
 clear hV hS
 rintro _ w ⟨r_305, r_306, hV, rfl, hr_307, hS⟩
 refine ⟨_, rfl, ?_⟩
 refine WL.nx ?_
 refine WC.cond rfl ?_ ?_
 intro hc_334
 replace hV := hV.1 hc_334
 refine WC.skip ?_
 refine WQ.next ?_
 refine WC.block ?_
 refine WC.region ?_
 refine WL.mv rfl rfl ?_
 replace hS := hS.f4.f4.f4
 refine WL.callP rfl rfl rfl (enters_c (vs := []) (caps := [(pq b_13), (pq b_21)]) rfl Tryz.call56 trivial) (S_value1 (@hG) h_279 hr_307 hr_273 ((hN.mono le_215).mono le_269) hS hV) (by rintro _ w ⟨e_320, xat_321, hE_322, rfl, H_323, le_324, hS⟩; exact ⟨_, rfl, WQ.of fun a ha => And.intro ha.defers (.inr ⟨e_320, xat_321, hE_322, rfl, _, ((((View.le.refl _).trans le_215).trans le_269).trans le_324), hS⟩)⟩) ?_
 clear hV hS
 rintro _ w ⟨c_309, r_313, r_315, r_317, v_310, fp_311, H_318, hV, rfl, le_319, h_312, hr_314, hr_316, hS⟩
 refine ⟨_, rfl, ?_⟩
 refine WL.nil ?_
 refine WQ.out nofun ?_
 replace hS := hS.f3.f3.f3.f4
 exact WQ.there fun a ha => ⟨(r_313, r_315, r_317, c_309), ⟨r_313, r_315, r_317, c_309, H_318, v_310, fp_311, rfl, hV.1, (((View.le.refl _).trans le_269).trans le_319), hr_314, hr_316, h_312, hS, ha.of_sub ⟨rfl, rfl, rfl, trivial⟩⟩, hV.2⟩
 intro hc_334
 replace hV := hV.2 hc_334
 refine WC.exit ?_
 refine WQ.pass nofun ?_
 refine WQ.pass nofun ?_
 refine WQ.hit ?_
 refine WQ.next ?_
 refine WC.region ?_
 refine WL.mv rfl rfl ?_
 refine WL.mv rfl rfl ?_
 refine WL.callP rfl rfl rfl (enters0 (vs := [(pq b_2), sv last_10]) Tryz.call64 ⟨rfl, rfl, trivial⟩) (S_want hr_307 hr_273 hS hV) (by rintro _ w ⟨e_329, xat_330, hE_331, rfl, H_332, le_333, hS⟩; exact ⟨_, rfl, WQ.of fun a ha => And.intro ha.defers (.inr ⟨e_329, xat_330, hE_331, rfl, _, ((((View.le.refl _).trans le_215).trans le_269).trans le_333), hS.drop.drop.drop⟩)⟩) ?_
 clear hV hS
 rintro _ w ⟨r_326, hV, rfl, hr_327, hS⟩
 refine ⟨_, rfl, ?_⟩
 refine WL.nil ?_
 replace hS := hS.f4.f4.f4.f4
 exact WQ.there fun a ha => ⟨r_326, c_272, c_274, c_276, H_268, v_277, fp_278, hV, (((View.le.refl _).trans le_215).trans le_269), hr_327, hr_273, h_279, hS, ha.of_sub ⟨rfl, trivial⟩⟩
 intro hc_336
 replace hV := hV.2 hc_336
 refine WC.skip ?_
 replace hS := hS.f4.f4.f4.f4
 exact WQ.there fun a ha => ⟨r_202, c_34, heavy_9, c_12_15, H, v_16, fp_18, hV, (View.le.refl _), hr_203, hr_35, h_17, hS, ha.of_sub ⟨rfl, trivial⟩⟩
 clear hJ_37
 refine WC.sr ?_
 refine WL.mv rfl rfl ?_
 refine WL.run hS rfl rfl rfl (ex_nilCheck rfl) ?_
 refine WL.run hS rfl rfl rfl (ex_fieldAddr (o' := 2) Tryz.underlying62 rfl Tryz.sizeOf3 rfl rfl) ?_
 refine WL.run hS rfl rfl rfl (ex_load_box Tryz.isAgg3 rfl rfl) ?_
 obtain ⟨hi_39, hV⟩ := hV
 refine WL.run hS rfl rfl rfl (ex_add rfl rfl hi_39) ?_
 refine WL.run hS rfl rfl rfl (ex_nilCheck rfl) ?_
 refine WL.run hS rfl rfl rfl (ex_fieldAddr (o' := 2) Tryz.underlying62 rfl Tryz.sizeOf3 rfl rfl) ?_
 refine WL.store_box (pre := [sv text_4, i6 xat_5]) (old := [i6 deep_7]) (rst := [.bool heavy_9]) (cs := [i6 (deep_7 + (1 : Int))]) (arr' := #[sv text_4, i6 xat_5, i6 (deep_7 + (1 : Int)), .bool heavy_9]) Tryz.sizeOf3 rfl rfl rfl ⟨rfl, trivial⟩ rfl rfl rfl rfl hS ?_
 clear hS
 intro w hS
 refine WL.nx ?_
 refine WC.sr ?_
 refine WL.mv rfl rfl ?_
 refine WL.run hS rfl rfl rfl (ex_nilCheck rfl) ?_
 refine WL.run hS rfl rfl rfl (ex_fieldAddr (o' := 2) Tryz.underlying62 rfl Tryz.sizeOf3 rfl rfl) ?_
 refine WL.run hS rfl rfl rfl (ex_load_box Tryz.isAgg3 rfl rfl) ?_
 refine WL.run hS rfl rfl rfl (ex_gtr rfl rfl) ?_
 refine WL.nx ?_
 refine WC.sub (m := [(0, (pq b_2)), (1, sv last_10), (2, .func (.func 56) #[] #[(pq b_13), (pq b_21)]), (17, .bool (decide ((24 : Int) < (deep_7 + (1 : Int)))))]) ⟨rfl, rfl, rfl, rfl, trivial⟩ ?_
 refine WC.cond rfl ?_ ?_
 intro hc_47
 replace hV := hV.1 (of_decide_eq_true hc_47)
 refine WC.region ?_
 refine WL.mv rfl rfl ?_
 refine WL.callP rfl rfl rfl (enters0 (vs := [(pq b_2), i6 (6 : Int)]) Tryz.call25 ⟨rfl, rfl, trivial⟩) (S_fail hr_6 hi_39 (show I64 (6 : Int) by unfold I64; omega) hS hV) (by rintro _ w ⟨e_42, xat_43, hE_44, rfl, H_45, le_46, hS⟩; exact ⟨_, rfl, WQ.of fun a ha => And.intro ha.defers (.inr ⟨e_42, xat_43, hE_44, rfl, _, ((View.le.refl _).trans le_46), hS.drop.drop.drop⟩)⟩) ?_
 clear hV hS
 rintro _ w ⟨hV, rfl, hS⟩
 refine ⟨_, rfl, ?_⟩
 refine WL.nil ?_
 replace hS := hS.f4.f4.f4.f4
 exact WQ.there fun a ha => ⟨(deep_7 + (1 : Int)), hV, hi_39, hS, ha.of_sub ⟨rfl, rfl, rfl, trivial⟩⟩
 intro hc_47
 replace hV := hV.2 (of_decide_eq_false hc_47)
 refine WC.skip ?_
 replace hS := hS.f4.f4.f4.f4
 exact WQ.there fun a ha => ⟨(deep_7 + (1 : Int)), hV, hi_39, hS, ha.of_sub ⟨rfl, rfl, rfl, trivial⟩⟩

theorem S_pairs {G : Str → Int → Int → Bool → (Int → Int → Prop) → (Val → Int → Int → Bool → Prop) → Prop} (hG : H_value G) {w0 : World} {H : View} {L : Seg} {w : World} {b_2 : Nat} {text_4 : Str} {xat_5 : Int} {deep_7 : Int} {heavy_9 : Bool} {b_12 : Nat} {v_15 : Value} {c_11_14 : List (Val)} {fp_17 : Seg} {b_20 : Nat} {b_24 : Nat} {b_28 : Nat} {v_31 : Value} {c_27_30 : List (Val)} {fp_33 : Seg} {E : Int → Int → Prop} {Q : Int → Int → Bool → (List (Val)) → (List (Val)) → Prop} (hr_6 : I64 xat_5) (hr_8 : I64 deep_7) (h_16 : OwnSl H cV 25 v_15 c_11_14 fp_17) (h_32 : OwnSl H cV 25 v_31 c_27_30 fp_33) (hN : GlobN w0 H) (hS : St w0 H ([(b_2, oc #[sv text_4, i6 xat_5, i6 deep_7, .bool heavy_9] 62)] ++ ([(b_12, oc #[v_15] 42)] ++ (fp_17 ++ ([(b_20, oc #[(pq b_2)] 60)] ++ ([(b_24, Obj.cells #[.func (.func 56) #[] #[(pq b_28), (pq b_20)]] 1 (0, 0))] ++ ([(b_28, oc #[v_31] 42)] ++ (fp_33 ++ L))))))) w) (hV : V_pairs G text_4 xat_5 deep_7 heavy_9 c_11_14 c_27_30 E Q) :
 Calls Tryz.prog 62 #[(pq b_2), .func (.func 63) #[] #[(pq b_12), (pq b_20), (pq b_24)]] w fun e w' => (∃ (r1 : Int) (r2 : Int) (r3 : Bool) (r4 : List (Val)) (r5 : List (Val)) (v4 : Value) (fp4 : Seg) (v5 : Value) (fp5 : Seg) (H' : View), Q r1 r2 r3 r4 r5 ∧ e = .returned (.tuple #[]) ∧ View.le H H' ∧ I64 r1 ∧ I64 r2 ∧ OwnSl H' cV 25 v4 r4 fp4 ∧ OwnSl H' cV 25 v5 r5 fp5 ∧ St w0 H' ([(b_2, oc #[sv text_4, i6 r1, i6 r2, .bool r3] 62)] ++ ([(b_12, oc #[v4] 42)] ++ (fp4 ++ ([(b_20, oc #[(pq b_2)] 60)] ++ ([(b_24, Obj.cells #[.func (.func 56) #[] #[(pq b_28), (pq b_20)]] 1 (0, 0))] ++ ([(b_28, oc #[v5] 42)] ++ (fp5 ++ L))))))) w') ∨ (∃ e1 a1, E e1 a1 ∧ e = .panicked (faultC e1 a1) ∧ ∃ H1, View.le H H1 ∧ St w0 H1 L w') := by
 unfold V_pairs at hV
 refine enter Tryz.func62 rfl Tryz.ntmps62 rfl (lk_args_cons (d := 0) (v := (pq b_2)) rfl (lk_args_cons (d := 1) (v := .func (.func 63) #[] #[(pq b_12), (pq b_20), (pq b_24)]) rfl (lk_args_nil _))) ?_
 obtain ⟨J_48, hJ_49, hV⟩ := hV
 refine WC.meet (fun a w => ∃ (c_46 : Int), J_48 c_46 ∧ I64 c_46 ∧ St w0 H ([(b_2, oc #[sv text_4, i6 xat_5, i6 c_46, .bool heavy_9] 62)] ++ ([(b_20, oc #[(pq b_2)] 60)] ++ ([(b_24, Obj.cells #[.func (.func 56) #[] #[(pq b_28), (pq b_20)]] 1 (0, 0))] ++ ([(b_28, oc #[v_31] 42)] ++ (fp_33 ++ ([(b_12, oc #[v_15] 42)] ++ (fp_17 ++ L))))))) w ∧ Fr 40 [(0, (pq b_2)), (1, .func (.func 63) #[] #[(pq b_12), (pq b_20), (pq b_24)])] a) ?_ ?_
 rintro a w ⟨c_46, hI, hr_47, hS, ha⟩
 refine in_frame ha ?_
 clear ha hV
 have hV := hJ_49 _ hI
 clear hI hJ_49
 refine WC.sr ?_
 refine WL.mv rfl rfl ?_
 refine WL.run hS rfl rfl rfl (ex_nilCheck rfl) ?_
 refine WL.run hS rfl rfl rfl (ex_fieldAddr (o' := 1) Tryz.underlying62 rfl Tryz.sizeOf3 rfl rfl) ?_
 refine WL.run hS rfl rfl rfl (ex_load_box Tryz.isAgg3 rfl rfl) ?_
 obtain ⟨hi_61, hV⟩ := hV
 refine WL.run hS rfl rfl rfl (ex_add rfl rfl hi_61) ?_
 refine WL.run hS rfl rfl rfl (ex_nilCheck rfl) ?_
 refine WL.run hS rfl rfl rfl (ex_fieldAddr (o' := 1) Tryz.underlying62 rfl Tryz.sizeOf3 rfl rfl) ?_
 refine WL.store_box (pre := [sv text_4]) (old := [i6 xat_5]) (rst := [i6 c_46, .bool heavy_9]) (cs := [i6 (xat_5 + (1 : Int))]) (arr' := #[sv text_4, i6 (xat_5 + (1 : Int)), i6 c_46, .bool heavy_9]) Tryz.sizeOf3 rfl rfl rfl ⟨rfl, trivial⟩ rfl rfl rfl rfl hS ?_
 clear hS
 intro w hS
 refine WL.nx ?_
 refine WC.sr ?_
 refine WL.mv rfl rfl ?_
 replace hS := hS.f5.f5.f5.f4.f5.f7.f7
 refine WL.callP rfl rfl rfl (enters_c (vs := []) (caps := [(pq b_12), (pq b_20), (pq b_24)]) rfl Tryz.call63 trivial) (S_value2 (@hG) h_16 hi_61 hr_47 h_32 hN hS hV) (by rintro _ w ⟨e_77, xat_78, hE_79, rfl, H_80, le_81, hS⟩; exact ⟨_, rfl, WQ.of fun a ha => And.intro ha.defers (.inr ⟨e_77, xat_78, hE_79, rfl, _, ((View.le.refl _).trans le_81), hS⟩)⟩) ?_
 clear hV hS
 rintro _ w ⟨c_62, r_66, r_68, r_70, c_71, v_63, fp_64, v_72, fp_73, H_75, hV, rfl, le_76, h_65, hr_67, hr_69, h_74, hS⟩
 refine ⟨_, rfl, ?_⟩
 refine WL.nx ?_
 refine WC.seq ?_
 refine WC.block ?_
 replace hS := hS.f2.f2.f7.f7.f7.f6.f7
 obtain ⟨I_184, mu_185, hI_224, hV⟩ := hV
 refine WC.loop (σ := Int × Int × Bool × (List (Val)) × (List (Val))) (fun s a w => ∃ (c_142 : Int) (c_144 : Int) (c_146 : Bool) (c_148 : List (Val)) (c_153 : List (Val)) (H_140 : View) (v_149 : Value) (fp_150 : Seg) (v_154 : Value) (fp_155 : Seg), s = (c_142, c_144, c_146, c_148, c_153) ∧ I_184 (c_142, c_144, c_146, c_148, c_153) ∧ View.le H_75 H_140 ∧ I64 c_142 ∧ I64 c_144 ∧ OwnSl H_140 cV 25 v_149 c_148 fp_150 ∧ OwnSl H_140 cV 25 v_154 c_153 fp_155 ∧ St w0 H_140 ([(b_2, oc #[sv text_4, i6 c_142, i6 c_144, .bool c_146] 62)] ++ ([(b_20, oc #[(pq b_2)] 60)] ++ ([(b_24, Obj.cells #[.func (.func 56) #[] #[(pq b_28), (pq b_20)]] 1 (0, 0))] ++ ([(b_28, oc #[v_149] 42)] ++ (fp_150 ++ ([(b_12, oc #[v_154] 42)] ++ (fp_155 ++ L))))))) w ∧ Fr 40 [(0, (pq b_2)), (1, .func (.func 63) #[] #[(pq b_12), (pq b_20), (pq b_24)])] a) mu_185 (r_66, r_68, r_70, c_71, c_62) ?_ ?_
 exact fun a ha => ⟨r_66, r_68, r_70, c_71, c_62, H_75, v_72, fp_73, v_63, fp_64, rfl, hI_224, (View.le.refl _), hr_67, hr_69, h_74, h_65, hS, ha.of_sub ⟨rfl, rfl, trivial⟩⟩
 clear hS hI_224
 rintro _ a w ⟨c_142, c_144, c_146, c_148, c_153, H_140, v_149, fp_150, v_154, fp_155, rfl, hI, le_141, hr_143, hr_145, h_151, h_156, hS, ha⟩
 refine in_frame ha ?_
 clear ha
 replace hV := hV _ hI
 clear hI
 refine WC.seq ?_
 refine WC.sr ?_
 refine WL.mv rfl rfl ?_
 refine WL.call rfl rfl rfl (enters0 (vs := [(pq b_2), sv ([44] : Str)]) Tryz.call95 ⟨rfl, rfl, trivial⟩) (S_take hr_143 hr_145 hS hV) ?_
 clear hV hS
 rintro _ w ⟨r_187, r_188, hV, rfl, hr_189, hS⟩
 refine ⟨_, rfl, ?_⟩
 refine WL.nx ?_
 refine WC.cond rfl ?_ ?_
 intro hc_223
 replace hV := hV.1 hc_223
 refine WC.skip ?_
 refine WQ.next ?_
 refine WC.block ?_
 refine WC.region ?_
 refine WL.mv rfl rfl ?_
 replace hS := hS.f5.f5.f5.f4.f5.f7.f7
 refine WL.callP rfl rfl rfl (enters_c (vs := []) (caps := [(pq b_12), (pq b_20), (pq b_24)]) rfl Tryz.call63 trivial) (S_value2 (@hG) h_156 hr_189 hr_145 h_151 ((hN.mono le_76).mono le_141) hS hV) (by rintro _ w ⟨e_206, xat_207, hE_208, rfl, H_209, le_210, hS⟩; exact ⟨_, rfl, WQ.of fun a ha => And.intro ha.defers (.inr ⟨e_206, xat_207, hE_208, rfl, _, ((((View.le.refl _).trans le_76).trans le_141).trans le_210), hS⟩)⟩) ?_
 clear hV hS
 rintro _ w ⟨c_191, r_195, r_197, r_199, c_200, v_192, fp_193, v_201, fp_202, H_204, hV, rfl, le_205, h_194, hr_196, hr_198, h_203, hS⟩
 refine ⟨_, rfl, ?_⟩
 refine WL.nil ?_
 refine WQ.out nofun ?_
 replace hS := hS.f2.f2.f7.f7.f7.f6.f7
 exact WQ.there fun a ha => ⟨(r_195, r_197, r_199, c_200, c_191), ⟨r_195, r_197, r_199, c_200, c_191, H_204, v_201, fp_202, v_192, fp_193, rfl, hV.1, (((View.le.refl _).trans le_141).trans le_205), hr_196, hr_198, h_203, h_194, hS, ha.of_sub ⟨rfl, rfl, trivial⟩⟩, hV.2⟩
 intro hc_223
 replace hV := hV.2 hc_223
 refine WC.exit ?_
 refine WQ.pass nofun ?_
 refine WQ.pass nofun ?_
 refine WQ.hit ?_
 refine WQ.next ?_
 refine WC.sr ?_
 refine WL.mv rfl rfl ?_
 refine WL.callP rfl rfl rfl (enters0 (vs := [(pq b_2), sv ([93] : Str)]) Tryz.call64 ⟨rfl, rfl, trivial⟩) (S_want hr_189 hr_145 hS hV) (by rintro _ w ⟨e_216, xat_217, hE_218, rfl, H_219, le_220, hS⟩; exact ⟨_, rfl, WQ.of fun a ha => And.intro ha.defers (.inr ⟨e_216, xat_217, hE_218, rfl, _, ((((View.le.refl _).trans le_76).trans le_141).trans le_220), hS.drop.drop.drop.drop.drop.drop⟩)⟩) ?_
 clear hV hS
 rintro _ w ⟨r_213, hV, rfl, hr_214, hS⟩
 refine ⟨_, rfl, ?_⟩
 refine WL.nx ?_
 refine WC.region ?_
 refine WL.mv rfl rfl ?_
 refine WL.run hS rfl rfl rfl (ex_nilCheck rfl) ?_
 refine WL.run hS rfl rfl rfl (ex_fieldAddr (o' := 2) Tryz.underlying62 rfl Tryz.sizeOf3 rfl rfl) ?_
 refine WL.run hS rfl rfl rfl (ex_load_box Tryz.isAgg3 rfl rfl) ?_
 obtain ⟨hi_222, hV⟩ := hV
 refine WL.run hS rfl rfl rfl (ex_sub rfl rfl hi_222) ?_
 refine WL.run hS rfl rfl rfl (ex_nilCheck rfl) ?_
 refine WL.run hS rfl rfl rfl (ex_fieldAddr (o' := 2) Tryz.underlying62 rfl Tryz.sizeOf3 rfl rfl) ?_
 refine WL.store_box (pre := [sv text_4, i6 r_213]) (old := [i6 c_144]) (rst := [.bool c_146]) (cs := [i6 (c_144 - (1 : Int))]) (arr' := #[sv text_4, i6 r_213, i6 (c_144 - (1 : Int)), .bool c_146]) Tryz.sizeOf3 rfl rfl rfl ⟨rfl, trivial⟩ rfl rfl rfl rfl hS ?_
 clear hS
 intro w hS
 refine WL.nil ?_
 replace hS := hS.f5.f5.f5.f5.f7.f7.f7
 exact leave0 (.inr rfl) rfl (.inl ⟨r_213, (c_144 - (1 : Int)), c_146, c_153, c_148, v_154, fp_155, v_149, fp_150, H_140, hV, rfl, (((View.le.refl _).trans le_76).trans le_141), hr_214, hi_222, h_156, h_151, hS⟩)
 clear hJ_49
 refine WC.sr ?_
 refine WL.mv rfl rfl ?_
 refine WL.run hS rfl rfl rfl (ex_nilCheck rfl) ?_
 refine WL.run hS rfl rfl rfl (ex_fieldAddr (o' := 2) Tryz.underlying62 rfl Tryz.sizeOf3 rfl rfl) ?_
 refine WL.run hS rfl rfl rfl (ex_load_box Tryz.isAgg3 rfl rfl) ?_
 obtain ⟨hi_51, hV⟩ := hV
 refine WL.run hS rfl rfl rfl (ex_add rfl rfl hi_51) ?_
 refine WL.run hS rfl rfl rfl (ex_nilCheck rfl) ?_
 refine WL.run hS rfl rfl rfl (ex_fieldAddr (o' := 2) Tryz.underlying62 rfl Tryz.sizeOf3 rfl rfl) ?_
 refine WL.store_box (pre := [sv text_4, i6 xat_5]) (old := [i6 deep_7]) (rst := [.bool heavy_9]) (cs := [i6 (deep_7 + (1 : Int))]) (arr' := #[sv text_4, i6 xat_5, i6 (deep_7 + (1 : Int)), .bool heavy_9]) Tryz.sizeOf3 rfl rfl rfl ⟨rfl, trivial⟩ rfl rfl rfl rfl hS ?_
 clear hS
 intro w hS
 refine WL.nx ?_
 refine WC.sr ?_
 refine WL.mv rfl rfl ?_
 refine WL.run hS rfl rfl rfl (ex_nilCheck rfl) ?_
 refine WL.run hS rfl rfl rfl (ex_fieldAddr (o' := 2) Tryz.underlying62 rfl Tryz.sizeOf3 rfl rfl) ?_
 refine WL.run hS rfl rfl rfl (ex_load_box Tryz.isAgg3 rfl rfl) ?_
 refine WL.run hS rfl rfl rfl (ex_gtr rfl rfl) ?_
 refine WL.nx ?_
 refine WC.sub (m := [(0, (pq b_2)), (1, .func (.func 63) #[] #[(pq b_12), (pq b_20), (pq b_24)]), (15, .bool (decide ((24 : Int) < (deep_7 + (1 : Int)))))]) ⟨rfl, rfl, rfl, trivial⟩ ?_
 refine WC.cond rfl ?_ ?_
 intro hc_59
 replace hV := hV.1 (of_decide_eq_true hc_59)
 refine WC.region ?_
 refine WL.mv rfl rfl ?_
 refine WL.callP rfl rfl rfl (enters0 (vs := [(pq b_2), i6 (6 : Int)]) Tryz.call25 ⟨rfl, rfl, trivial⟩) (S_fail hr_6 hi_51 (show I64 (6 : Int) by unfold I64; omega) hS hV) (by rintro _ w ⟨e_54, xat_55, hE_56, rfl, H_57, le_58, hS⟩; exact ⟨_, rfl, WQ.of fun a ha => And.intro ha.defers (.inr ⟨e_54, xat_55, hE_56, rfl, _, ((View.le.refl _).trans le_58), hS.drop.drop.drop.drop.drop.drop⟩)⟩) ?_
 clear hV hS
 rintro _ w ⟨hV, rfl, hS⟩
 refine ⟨_, rfl, ?_⟩
 refine WL.nil ?_
 replace hS := hS.f3.f3.f7.f7.f7.f7.f7
 exact WQ.there fun a ha => ⟨(deep_7 + (1 : Int)), hV, hi_51, hS, ha.of_sub ⟨rfl, rfl, trivial⟩⟩
 intro hc_59
 replace hV := hV.2 (of_decide_eq_false hc_59)
 refine WC.skip ?_
 replace hS := hS.f3.f3.f7.f7.f7.f7.f7
 exact WQ.there fun a ha => ⟨(deep_7 + (1 : Int)), hV, hi_51, hS, ha.of_sub ⟨rfl, rfl, trivial⟩⟩

theorem S_value (m0 : Nat) : ∀ {w0 : World} {H : View} {L : Seg} {w : World} {b_2 : Nat} {text_4 : Str} {xat_5 : Int} {deep_7 : Int} {heavy_9 : Bool} {E : Int → Int → Prop} {Q : Val → Int → Int → Bool → Prop} (hr_6 : I64 xat_5) (hr_8 : I64 deep_7) (hN : GlobN w0 H) (hS : St w0 H ([(b_2, oc #[sv text_4, i6 xat_5, i6 deep_7, .bool heavy_9] 62)] ++ L) w) (hV : V_value m0 text_4 xat_5 deep_7 heavy_9 E Q),
 Calls Tryz.prog 23 #[(pq b_2)] w fun e w' => (∃ (r1 : Val) (r2 : Int) (r3 : Int) (r4 : Bool) (u1 : Value) (H' : View), Q r1 r2 r3 r4 ∧ e = .returned (.agg #[u1]) ∧ View.le H H' ∧ IsW H' u1 r1 ∧ I64 r2 ∧ I64 r3 ∧ St w0 H' ([(b_2, oc #[sv text_4, i6 r2, i6 r3, .bool r4] 62)] ++ L) w') ∨ (∃ e1 a1, E e1 a1 ∧ e = .panicked (faultC e1 a1) ∧ ∃ H1, View.le H H1 ∧ St w0 H1 L w') := by
 induction m0 with
 | zero => intro w0 H L w b_2 text_4 xat_5 deep_7 heavy_9 E Q hr_6 hr_8 hN hS hV; exact hV.elim
 | succ m0 ih =>
  intro w0 H L w b_2 text_4 xat_5 deep_7 heavy_9 E Q hr_6 hr_8 hN hS hV
  unfold V_value at hV
  refine enter Tryz.func23 rfl Tryz.ntmps23 rfl (lk_args_cons (d := 0) (v := (pq b_2)) rfl (lk_args_nil _)) ?_
  refine WC.sr ?_
  refine WL.box (arr := #[(pq b_2)]) rfl rfl rfl hS ?_
  clear hS
  intro b_10 w hS
  refine WL.alloc (arr := #[.nilIface]) rfl Tryz.zeroValue25 rfl hS ?_
  clear hS
  intro b_12 w hS
  refine WL.nx ?_
  refine WC.sr ?_
  replace hS := hS.f2
  refine WL.run hS rfl rfl rfl (ex_load_box Tryz.isAgg60 rfl rfl) ?_
  replace hS := hS.f3
  refine WL.call rfl rfl rfl (enters0 (vs := [(pq b_2)]) Tryz.call24 ⟨rfl, trivial⟩) (S_skip hr_6 hr_8 hS hV) ?_
  clear hV hS
  rintro _ w ⟨r_14, hV, rfl, hr_15, hS⟩
  refine ⟨_, rfl, ?_⟩
  refine WL.nx ?_
  refine WC.sr ?_
  refine WL.alloc (arr := #[(.slice none 0 0)]) rfl Tryz.zeroValue42 rfl hS ?_
  clear hS
  intro b_17 w hS
  refine WL.alloc (arr := #[(.slice none 0 0)]) rfl Tryz.zeroValue42 rfl hS ?_
  clear hS
  intro b_20 w hS
  refine WL.nx ?_
  refine WC.sr ?_
  refine WL.run hS rfl rfl rfl (ex_makeFunc (vs := [(pq b_17), (pq b_10)]) ⟨rfl, rfl, trivial⟩) ?_
  refine WL.alloc (arr := #[.nilFunc]) rfl Tryz.zeroValue1 rfl hS ?_
  clear hS
  intro b_23 w hS
  refine WL.store_box (pre := []) (old := [.nilFunc]) (rst := []) (cs := [.func (.func 56) #[] #[(pq b_17), (pq b_10)]]) (arr' := #[.func (.func 56) #[] #[(pq b_17), (pq b_10)]]) Tryz.sizeOf1 rfl rfl rfl ⟨rfl, trivial⟩ rfl rfl rfl rfl hS ?_
  clear hS
  intro w hS
  refine WL.nx ?_
  refine WC.seq ?_
  refine WC.seq ?_
  refine WC.quiet (C := St w0 H ([(b_23, Obj.cells #[.func (.func 56) #[] #[(pq b_17), (pq b_10)]] 1 (0, 0))] ++ ([(b_20, oc #[(.slice none 0 0)] 42)] ++ ([(b_17, oc #[(.slice none 0 0)] 42)] ++ ([(b_2, oc #[sv text_4, i6 r_14, i6 deep_7, .bool heavy_9] 62)] ++ ([(b_10, oc #[(pq b_2)] 60)] ++ ([(b_12, oc #[.nilIface] 25)] ++ L))))))) Tryz.mixed (by kernel_rfl) (hS.drawn _) ?_
  clear hS w
  refine Wq.run rfl rfl rfl ((ex_load_box Tryz.isAgg60 rfl rfl).of (fun _ h => St.f5 h)) ?_
  refine Wq.run rfl rfl rfl (ex_nilCheck rfl) ?_
  refine Wq.run rfl rfl rfl (ex_fieldAddr (o' := 0) Tryz.underlying62 rfl Tryz.sizeOf9 rfl rfl) ?_
  refine Wq.run rfl rfl rfl ((ex_load_box Tryz.isAgg9 rfl rfl).of (fun _ h => St.f4 h)) ?_
  refine Wq.run rfl rfl rfl ((ex_load_box Tryz.isAgg60 rfl rfl).of (fun _ h => St.f5 h)) ?_
  refine Wq.run rfl rfl rfl (ex_nilCheck rfl) ?_
  refine Wq.run rfl rfl rfl (ex_fieldAddr (o' := 1) Tryz.underlying62 rfl Tryz.sizeOf3 rfl rfl) ?_
  refine Wq.run rfl rfl rfl ((ex_load_box Tryz.isAgg3 rfl rfl).of (fun _ h => St.f4 h)) ?_
  obtain ⟨hb_25, hV⟩ := hV
  refine Wq.run rfl rfl rfl (ex_s_lo Tryz.underlying9 rfl rfl hb_25) ?_
  refine Wq.run rfl rfl rfl (ex_assign rfl) ?_
  refine Wq.nil fun w hS => ?_
  refine WQ.next ?_
  refine WC.sub (m := [(1, (pq b_10)), (2, (pq b_12)), (3, (pq b_17)), (4, (pq b_20)), (5, (pq b_23)), (6, sv (text_4.drop r_14.toNat))]) ⟨rfl, rfl, rfl, rfl, rfl, rfl, trivial⟩ ?_
  refine WC.block ?_
  refine WC.sr ?_
  refine WL.mv rfl rfl ?_
  refine WL.call rfl rfl rfl (enters0 (vs := [sv (text_4.drop r_14.toNat), sv ([123] : Str)]) Tryz.call57 ⟨rfl, rfl, trivial⟩) (S_hasPre  hS hV) ?_
  clear hV hS
  rintro _ w ⟨r_26, hV, rfl, hS⟩
  refine ⟨_, rfl, ?_⟩
  refine WL.ma rfl rfl ?_
  refine WL.nx ?_
  refine WC.cond rfl ?_ ?_
  intro hc_162
  replace hV := hV.1 hc_162
  refine WC.sr ?_
  replace hS := hS.f5
  refine WL.run hS rfl rfl rfl (ex_load_box Tryz.isAgg60 rfl rfl) ?_
  replace hS := hS.f2
  refine WL.run hS rfl rfl rfl (ex_load_box Tryz.isAgg1 rfl rfl) ?_
  replace hS := hS.nilseg
  replace hS := hS.f3.f2.f5.f6
  refine WL.callP rfl rfl rfl (enters0 (vs := [(pq b_2), sv ([125] : Str), .func (.func 56) #[] #[(pq b_17), (pq b_10)]]) Tryz.call58 ⟨rfl, rfl, rfl, trivial⟩) (S_list (@ih) hr_15 hr_8 OwnSl.nil hN hS hV) (by rintro _ w ⟨e_39, xat_40, hE_41, rfl, H_42, le_43, hS⟩; exact ⟨_, rfl, WQ.of fun a ha => And.intro ha.defers (.inr ⟨e_39, xat_40, hE_41, rfl, _, ((View.le.refl _).trans le_43), hS.drop.drop.drop⟩)⟩) ?_
  clear hV hS
  rintro _ w ⟨r_28, r_30, r_32, c_33, v_34, fp_35, H_37, hV, rfl, le_38, hr_29, hr_31, h_36, hS⟩
  refine ⟨_, rfl, ?_⟩
  refine WL.nx ?_
  replace hS := hS.f6.drop
  replace hS := hS.f5.drop
  refine WC.seq ?_
  refine WC.drawn (σ := [0, 1, 2, 3, 4]) (C := St w0 H_37 ([(b_2, oc #[sv text_4, i6 r_28, i6 r_30, .bool r_32] 62)] ++ ([(b_17, oc #[v_34] 42)] ++ (fp_35 ++ ([(b_10, oc #[(pq b_2)] 60)] ++ ([(b_12, oc #[.nilIface] 25)] ++ L)))))) [[], [], [1], [0, 1, 2], [0, 1, 2, 3]] [2, 3, 4] Tryz.mixed (by kernel_rfl) (hS.drawn _) ?_
  clear hS w
  refine Wd.runb (off := 0) rfl rfl rfl rfl (fun _ _ _ h => ex_load_box Tryz.isAgg60 rfl h) rfl (fun _ h => St.f4 h) fun q_46 hq_45 => ?_
  refine Wd.runb (off := 0) rfl rfl rfl rfl (fun _ _ _ h => ex_load_box Tryz.isAgg42 rfl h) rfl (fun _ h => St.f2 h) fun q_48 hq_47 => ?_
  refine Wd.turn rfl rfl rfl fun w hS => ?_
  replace hS := hS.f3
  refine WL.call rfl rfl rfl (enters0 (vs := [v_34]) Tryz.call60 ⟨rfl, trivial⟩) (S_SetOf h_36 hS hV) ?_
  clear hV hS
  rintro _ w ⟨r_49, u_50, H_52, hV, rfl, le_53, h_51, hS⟩
  refine ⟨_, rfl, ?_⟩
  refine WL.nil (DQ.mk2 (C' := St w0 H_52 ([(b_2, oc #[sv text_4, i6 r_28, i6 r_30, .bool r_32] 62)] ++ ([(b_17, oc #[v_34] 42)] ++ ([(b_10, oc #[(pq b_2)] 60)] ++ ([(b_12, oc #[.nilIface] 25)] ++ L))))) hS ⟨il, .inr (hq_45 H_52 ([(b_2, oc #[sv text_4, i6 r_28, i6 r_30, .bool r_32] 62)] ++ ([(b_17, oc #[v_34] 42)] ++ ([(b_12, oc #[.nilIface] 25)] ++ L))) #[(pq b_2)] _ rfl (fun _ h => St.f3 h)), trivial⟩ ?_)
  clear hS w
  refine Wd.turn rfl rfl rfl fun w hS => ?_
  refine WL.call rfl rfl rfl (enters0 (vs := [(pq b_2), .agg #[u_50]]) Tryz.call59 ⟨rfl, rfl, trivial⟩) (S_weighed hr_29 hr_31 h_51 hS hV) ?_
  clear hV hS
  rintro _ w ⟨r_54, r_57, u_55, H_58, hV, rfl, le_59, h_56, hS⟩
  refine ⟨_, rfl, ?_⟩
  refine WL.nil (DQ.mk2 (C' := St w0 H_58 ([(b_2, oc #[sv text_4, i6 r_28, i6 r_30, .bool r_57] 62)] ++ ([(b_17, oc #[v_34] 42)] ++ ([(b_10, oc #[(pq b_2)] 60)] ++ ([(b_12, oc #[.nilIface] 25)] ++ L))))) hS ⟨il, il, trivial⟩ ?_)
  clear hS w
  refine Wd.turn rfl rfl rfl fun w hS => ?_
  replace hS := hS.f4
  refine WL.store_box (pre := []) (old := [.nilIface]) (rst := []) (cs := [u_55]) (arr' := #[u_55]) Tryz.sizeOf25 rfl rfl rfl ⟨(IsW.one h_56), trivial⟩ rfl rfl rfl rfl hS ?_
  clear hS
  intro w hS
  refine WL.nil (DQ.mk2 (C' := St w0 H_58 ([(b_12, oc #[u_55] 25)] ++ ([(b_2, oc #[sv text_4, i6 r_28, i6 r_30, .bool r_57] 62)] ++ ([(b_17, oc #[v_34] 42)] ++ ([(b_10, oc #[(pq b_2)] 60)] ++ L))))) hS ⟨il, il, trivial⟩ ?_)
  clear hS w
  refine Wd.nil fun w hS => ?_
  refine WQ.next ?_
  refine WC.sub (m := [(2, (pq b_12))]) ⟨rfl, trivial⟩ ?_
  replace hS := hS.f4.drop
  replace hS := hS.f3.drop
  refine WC.ret ?_
  refine WQ.out nofun ?_
  refine WQ.pass nofun ?_
  have hl_60 := load_own_agg (P := Tryz.prog) (cs := [u_55]) Tryz.isAgg25 Tryz.sizeOf25 hS rfl
  replace hS := hS.drop
  exact leavec1 (il) rfl rfl hl_60 (.inl ⟨r_54, r_28, r_30, r_57, u_55, H_58, hV, rfl, ((((View.le.refl _).trans le_38).trans le_53).trans le_59), h_56, hr_29, hr_31, hS⟩)
  intro hc_162
  replace hV := hV.2 hc_162
  refine WC.sr ?_
  refine WL.mv rfl rfl ?_
  refine WL.call rfl rfl rfl (enters0 (vs := [sv (text_4.drop r_14.toNat), sv ([60, 60] : Str)]) Tryz.call57 ⟨rfl, rfl, trivial⟩) (S_hasPre  hS hV) ?_
  clear hV hS
  rintro _ w ⟨r_61, hV, rfl, hS⟩
  refine ⟨_, rfl, ?_⟩
  refine WL.ma rfl rfl ?_
  refine WL.nx ?_
  refine WC.cond rfl ?_ ?_
  intro hc_161
  replace hV := hV.1 hc_161
  refine WC.sr ?_
  replace hS := hS.f5
  refine WL.run hS rfl rfl rfl (ex_load_box Tryz.isAgg60 rfl rfl) ?_
  replace hS := hS.f2
  refine WL.run hS rfl rfl rfl (ex_load_box Tryz.isAgg1 rfl rfl) ?_
  replace hS := hS.nilseg
  replace hS := hS.f3.f2.f5.f6
  refine WL.callP rfl rfl rfl (enters0 (vs := [(pq b_2), sv ([62, 62] : Str), .func (.func 56) #[] #[(pq b_17), (pq b_10)]]) Tryz.call58 ⟨rfl, rfl, rfl, trivial⟩) (S_list (@ih) hr_15 hr_8 OwnSl.nil hN hS hV) (by rintro _ w ⟨e_74, xat_75, hE_76, rfl, H_77, le_78, hS⟩; exact ⟨_, rfl, WQ.of fun a ha => And.intro ha.defers (.inr ⟨e_74, xat_75, hE_76, rfl, _, ((View.le.refl _).trans le_78), hS.drop.drop.drop⟩)⟩) ?_
  clear hV hS
  rintro _ w ⟨r_63, r_65, r_67, c_68, v_69, fp_70, H_72, hV, rfl, le_73, hr_64, hr_66, h_71, hS⟩
  refine ⟨_, rfl, ?_⟩
  refine WL.nx ?_
  refine WC.sub (m := [(1, (pq b_10)), (2, (pq b_12)), (3, (pq b_17))]) ⟨rfl, rfl, rfl, trivial⟩ ?_
  replace hS := hS.f6.drop
  replace hS := hS.f5.drop
  refine WC.seq ?_
  refine WC.drawn (σ := [0, 1, 2, 3, 4]) (C := St w0 H_72 ([(b_2, oc #[sv text_4, i6 r_63, i6 r_65, .bool r_67] 62)] ++ ([(b_17, oc #[v_69] 42)] ++ (fp_70 ++ ([(b_10, oc #[(pq b_2)] 60)] ++ ([(b_12, oc #[.nilIface] 25)] ++ L)))))) [[], [], [1], [0, 1, 2], [0, 1, 2, 3]] [2, 3, 4] Tryz.mixed (by kernel_rfl) (hS.drawn _) ?_
  clear hS w
  refine Wd.runb (off := 0) rfl rfl rfl rfl (fun _ _ _ h => ex_load_box Tryz.isAgg60 rfl h) rfl (fun _ h => St.f4 h) fun q_81 hq_80 => ?_
  refine Wd.runb (off := 0) rfl rfl rfl rfl (fun _ _ _ h => ex_load_box Tryz.isAgg42 rfl h) rfl (fun _ h => St.f2 h) fun q_83 hq_82 => ?_
  refine Wd.turn rfl rfl rfl fun w hS => ?_
  replace hS := hS.f3
  obtain ⟨H_84, le_85, h_86, hS⟩ : ∃ K, View.le H_72 K ∧ IsSl K cV v_69 c_68 ∧ St w0 K ([(b_2, oc #[sv text_4, i6 r_63, i6 r_65, .bool r_67] 62)] ++ ([(b_17, oc #[v_69] 42)] ++ ([(b_10, oc #[(pq b_2)] 60)] ++ ([(b_12, oc #[.nilIface] 25)] ++ L)))) w := ⟨_, hS.put_le, h_71.share hS.put_le, hS.freeze⟩
  refine WL.call rfl rfl rfl (enters0 (vs := [v_69]) Tryz.call61 ⟨rfl, trivial⟩) (S_SequenceOf h_86 hS hV) ?_
  clear hV hS
  rintro _ w ⟨r_87, u_88, H_90, hV, rfl, le_91, h_89, hS⟩
  refine ⟨_, rfl, ?_⟩
  refine WL.nil (DQ.mk2 (C' := St w0 H_90 ([(b_2, oc #[sv text_4, i6 r_63, i6 r_65, .bool r_67] 62)] ++ ([(b_17, oc #[v_69] 42)] ++ ([(b_10, oc #[(pq b_2)] 60)] ++ ([(b_12, oc #[.nilIface] 25)] ++ L))))) hS ⟨il, .inr (hq_80 H_90 ([(b_2, oc #[sv text_4, i6 r_63, i6 r_65, .bool r_67] 62)] ++ ([(b_17, oc #[v_69] 42)] ++ ([(b_12, oc #[.nilIface] 25)] ++ L))) #[(pq b_2)] _ rfl (fun _ h => St.f3 h)), trivial⟩ ?_)
  clear hS w
  refine Wd.turn rfl rfl rfl fun w hS => ?_
  refine WL.call rfl rfl rfl (enters0 (vs := [(pq b_2), .agg #[u_88]]) Tryz.call59 ⟨rfl, rfl, trivial⟩) (S_weighed hr_64 hr_66 h_89 hS hV) ?_
  clear hV hS
  rintro _ w ⟨r_92, r_95, u_93, H_96, hV, rfl, le_97, h_94, hS⟩
  refine ⟨_, rfl, ?_⟩
  refine WL.nil (DQ.mk2 (C' := St w0 H_96 ([(b_2, oc #[sv text_4, i6 r_63, i6 r_65, .bool r_95] 62)] ++ ([(b_17, oc #[v_69] 42)] ++ ([(b_10, oc #[(pq b_2)] 60)] ++ ([(b_12, oc #[.nilIface] 25)] ++ L))))) hS ⟨il, il, trivial⟩ ?_)
  clear hS w
  refine Wd.turn rfl rfl rfl fun w hS => ?_
  replace hS := hS.f4
  refine WL.store_box (pre := []) (old := [.nilIface]) (rst := []) (cs := [u_93]) (arr' := #[u_93]) Tryz.sizeOf25 rfl rfl rfl ⟨(IsW.one h_94), trivial⟩ rfl rfl rfl rfl hS ?_
  clear hS
  intro w hS
  refine WL.nil (DQ.mk2 (C' := St w0 H_96 ([(b_12, oc #[u_93] 25)] ++ ([(b_2, oc #[sv text_4, i6 r_63, i6 r_65, .bool r_95] 62)] ++ ([(b_17, oc #[v_69] 42)] ++ ([(b_10, oc #[(pq b_2)] 60)] ++ L))))) hS ⟨il, il, trivial⟩ ?_)
  clear hS w
  refine Wd.nil fun w hS => ?_
  refine WQ.next ?_
  replace hS := hS.f4.drop
  replace hS := hS.f3.drop
  refine WC.ret ?_
  refine WQ.out nofun ?_
  refine WQ.pass nofun ?_
  have hl_98 := load_own_agg (P := Tryz.prog) (cs := [u_93]) Tryz.isAgg25 Tryz.sizeOf25 hS rfl
  replace hS := hS.drop
  exact leavec1 (il) rfl rfl hl_98 (.inl ⟨r_92, r_63, r_65, r_95, u_93, H_96, hV, rfl, (((((View.le.refl _).trans le_73).trans le_85).trans le_91).trans le_97), h_94, hr_64, hr_66, hS⟩)
  intro hc_161
  replace hV := hV.2 hc_161
  refine WC.sr ?_
  refine WL.mv rfl rfl ?_
  refine WL.call rfl rfl rfl (enters0 (vs := [sv (text_4.drop r_14.toNat), sv ([91] : Str)]) Tryz.call57 ⟨rfl, rfl, trivial⟩) (S_hasPre  hS hV) ?_
  clear hV hS
  rintro _ w ⟨r_99, hV, rfl, hS⟩
  refine ⟨_, rfl, ?_⟩
  refine WL.ma rfl rfl ?_
  refine WL.nx ?_
  refine WC.cond rfl ?_ ?_
  intro hc_160
  replace hV := hV.1 hc_160
  refine WC.sr ?_
  replace hS := hS.f5
  refine WL.run hS rfl rfl rfl (ex_load_box Tryz.isAgg60 rfl rfl) ?_
  refine WL.run hS rfl rfl rfl (ex_makeFunc (vs := [(pq b_20), (pq b_10), (pq b_23)]) ⟨rfl, rfl, rfl, trivial⟩) ?_
  replace hS := hS.nilseg
  replace hS := hS.nilseg
  replace hS := hS.f6.f5.f5.f5.f6.f7
  refine WL.callP rfl rfl rfl (enters0 (vs := [(pq b_2), .func (.func 63) #[] #[(pq b_20), (pq b_10), (pq b_23)]]) Tryz.call62 ⟨rfl, rfl, trivial⟩) (S_pairs (@ih) hr_15 hr_8 OwnSl.nil OwnSl.nil hN hS hV) (by rintro _ w ⟨e_116, xat_117, hE_118, rfl, H_119, le_120, hS⟩; exact ⟨_, rfl, WQ.of fun a ha => And.intro ha.defers (.inr ⟨e_116, xat_117, hE_118, rfl, _, ((View.le.refl _).trans le_120), hS.drop⟩)⟩) ?_
  clear hV hS
  rintro _ w ⟨r_101, r_103, r_105, c_106, c_110, v_107, fp_108, v_111, fp_112, H_114, hV, rfl, le_115, hr_102, hr_104, h_109, h_113, hS⟩
  refine ⟨_, rfl, ?_⟩
  refine WL.nx ?_
  refine WC.sub (m := [(1, (pq b_10)), (2, (pq b_12)), (3, (pq b_17)), (4, (pq b_20))]) ⟨rfl, rfl, rfl, rfl, trivial⟩ ?_
  replace hS := hS.f5.drop
  refine WC.seq ?_
  refine WC.drawn (σ := [0, 1, 2, 3, 4, 5]) (C := St w0 H_114 ([(b_2, oc #[sv text_4, i6 r_101, i6 r_103, .bool r_105] 62)] ++ ([(b_20, oc #[v_107] 42)] ++ (fp_108 ++ ([(b_10, oc #[(pq b_2)] 60)] ++ ([(b_17, oc #[v_111] 42)] ++ (fp_112 ++ ([(b_12, oc #[.nilIface] 25)] ++ L)))))))) [[], [], [], [1, 2], [0, 1, 2, 3], [0, 1, 2, 3, 4]] [3, 4, 5] Tryz.mixed (by kernel_rfl) (hS.drawn _) ?_
  clear hS w
  refine Wd.runb (off := 0) rfl rfl rfl rfl (fun _ _ _ h => ex_load_box Tryz.isAgg60 rfl h) rfl (fun _ h => St.f4 h) fun q_124 hq_123 => ?_
  refine Wd.runb (off := 0) rfl rfl rfl rfl (fun _ _ _ h => ex_load_box Tryz.isAgg42 rfl h) rfl (fun _ h => St.f2 h) fun q_126 hq_125 => ?_
  refine Wd.runb (off := 0) rfl rfl rfl rfl (fun _ _ _ h => ex_load_box Tryz.isAgg42 rfl h) rfl (fun _ h => St.f5 h) fun q_128 hq_127 => ?_
  refine Wd.turn rfl rfl rfl fun w hS => ?_
  replace hS := hS.f3
  obtain ⟨H_129, le_130, h_131, hS⟩ : ∃ K, View.le H_114 K ∧ IsSl K cV v_107 c_106 ∧ St w0 K ([(b_2, oc #[sv text_4, i6 r_101, i6 r_103, .bool r_105] 62)] ++ ([(b_20, oc #[v_107] 42)] ++ ([(b_10, oc #[(pq b_2)] 60)] ++ ([(b_17, oc #[v_111] 42)] ++ (fp_112 ++ ([(b_12, oc #[.nilIface] 25)] ++ L)))))) w := ⟨_, hS.put_le, h_109.share hS.put_le, hS.freeze⟩
  replace hS := hS.f5
  obtain ⟨H_132, le_133, h_134, hS⟩ : ∃ K, View.le H_129 K ∧ IsSl K cV v_111 c_110 ∧ St w0 K ([(b_2, oc #[sv text_4, i6 r_101, i6 r_103, .bool r_105] 62)] ++ ([(b_20, oc #[v_107] 42)] ++ ([(b_10, oc #[(pq b_2)] 60)] ++ ([(b_17, oc #[v_111] 42)] ++ ([(b_12, oc #[.nilIface] 25)] ++ L))))) w := ⟨_, hS.put_le, (h_113.mono le_130).share hS.put_le, hS.freeze⟩
  refine WL.call rfl rfl rfl (enters0 (vs := [v_107, v_111]) Tryz.call65 ⟨rfl, rfl, trivial⟩) (S_FunctionOf (h_131.mono le_133) h_134 hS hV) ?_
  clear hV hS
  rintro _ w ⟨r_135, u_136, H_138, hV, rfl, le_139, h_137, hS⟩
  refine ⟨_, rfl, ?_⟩
  refine WL.nil (DQ.mk2 (C' := St w0 H_138 ([(b_2, oc #[sv text_4, i6 r_101, i6 r_103, .bool r_105] 62)] ++ ([(b_20, oc #[v_107] 42)] ++ ([(b_10, oc #[(pq b_2)] 60)] ++ ([(b_17, oc #[v_111] 42)] ++ ([(b_12, oc #[.nilIface] 25)] ++ L)))))) hS ⟨il, il, .inr (hq_123 H_138 ([(b_2, oc #[sv text_4, i6 r_101, i6 r_103, .bool r_105] 62)] ++ ([(b_20, oc #[v_107] 42)] ++ ([(b_17, oc #[v_111] 42)] ++ ([(b_12, oc #[.nilIface] 25)] ++ L)))) #[(pq b_2)] _ rfl (fun _ h => St.f3 h)), trivial⟩ ?_)
  clear hS w
  refine Wd.turn rfl rfl rfl fun w hS => ?_
  refine WL.call rfl rfl rfl (enters0 (vs := [(pq b_2), .agg #[u_136]]) Tryz.call59 ⟨rfl, rfl, trivial⟩) (S_weighed hr_102 hr_104 h_137 hS hV) ?_
  clear hV hS
  rintro _ w ⟨r_140, r_143, u_141, H_144, hV, rfl, le_145, h_142, hS⟩
  refine ⟨_, rfl, ?_⟩
  refine WL.nil (DQ.mk2 (C' := St w0 H_144 ([(b_2, oc #[sv text_4, i6 r_101, i6 r_103, .bool r_143] 62)] ++ ([(b_20, oc #[v_107] 42)] ++ ([(b_10, oc #[(pq b_2)] 60)] ++ ([(b_17, oc #[v_111] 42)] ++ ([(b_12, oc #[.nilIface] 25)] ++ L)))))) hS ⟨il, il, il, trivial⟩ ?_)
  clear hS w
  refine Wd.turn rfl rfl rfl fun w hS => ?_
  replace hS := hS.f5
  refine WL.store_box (pre := []) (old := [.nilIface]) (rst := []) (cs := [u_141]) (arr' := #[u_141]) Tryz.sizeOf25 rfl rfl rfl ⟨(IsW.one h_142), trivial⟩ rfl rfl rfl rfl hS ?_
  clear hS
  intro w hS
  refine WL.nil (DQ.mk2 (C' := St w0 H_144 ([(b_12, oc #[u_141] 25)] ++ ([(b_2, oc #[sv text_4, i6 r_101, i6 r_103, .bool r_143] 62)] ++ ([(b_20, oc #[v_107] 42)] ++ ([(b_10, oc #[(pq b_2)] 60)] ++ ([(b_17, oc #[v_111] 42)] ++ L)))))) hS ⟨il, il, il, trivial⟩ ?_)
  clear hS w
  refine Wd.nil fun w hS => ?_
  refine WQ.next ?_
  replace hS := hS.f4.drop
  replace hS := hS.f4.drop
  replace hS := hS.f3.drop
  refine WC.ret ?_
  refine WQ.out nofun ?_
  refine WQ.pass nofun ?_
  have hl_146 := load_own_agg (P := Tryz.prog) (cs := [u_141]) Tryz.isAgg25 Tryz.sizeOf25 hS rfl
  replace hS := hS.drop
  exact leavec1 (il) rfl rfl hl_146 (.inl ⟨r_140, r_101, r_103, r_143, u_141, H_144, hV, rfl, ((((((View.le.refl _).trans le_115).trans le_130).trans le_133).trans le_139).trans le_145), h_142, hr_102, hr_104, hS⟩)
  intro hc_160
  replace hV := hV.2 hc_160
  refine WC.skip ?_
  refine WQ.out nofun ?_
  refine WQ.next ?_
  refine WC.sub (m := [(1, (pq b_10)), (2, (pq b_12))]) ⟨rfl, rfl, trivial⟩ ?_
  replace hS := hS.f3.drop
  replace hS := hS.f2.drop
  replace hS := hS.drop
  refine WC.sr ?_
  replace hS := hS.f2
  refine WL.run hS rfl rfl rfl (ex_load_box Tryz.isAgg60 rfl rfl) ?_
  replace hS := hS.f2
  refine WL.callP rfl rfl rfl (enters0 (vs := [(pq b_2)]) Tryz.call66 ⟨rfl, trivial⟩) (S_single hr_15 hr_8 hN hS hV) (by rintro _ w ⟨e_154, xat_155, hE_156, rfl, H_157, le_158, hS⟩; exact ⟨_, rfl, WQ.of fun a ha => And.intro ha.defers (.inr ⟨e_154, xat_155, hE_156, rfl, _, ((View.le.refl _).trans le_158), hS.drop.drop⟩)⟩) ?_
  clear hV hS
  rintro _ w ⟨r_147, r_150, u_148, H_152, hV, rfl, le_153, h_149, hr_151, hS⟩
  refine ⟨_, rfl, ?_⟩
  replace hS := hS.f3
  refine WL.store_box (pre := []) (old := [.nilIface]) (rst := []) (cs := [u_148]) (arr' := #[u_148]) Tryz.sizeOf25 rfl rfl rfl ⟨(IsW.one h_149), trivial⟩ rfl rfl rfl rfl hS ?_
  clear hS
  intro w hS
  refine WL.nx ?_
  replace hS := hS.f3.drop
  refine WC.ret ?_
  have hl_159 := load_own_agg (P := Tryz.prog) (cs := [u_148]) Tryz.isAgg25 Tryz.sizeOf25 hS rfl
  replace hS := hS.drop
  exact leavec1 (il) rfl rfl hl_159 (.inl ⟨r_147, r_150, deep_7, heavy_9, u_148, H_152, hV, rfl, ((View.le.refl _).trans le_153), h_149, hr_151, hr_8, hS⟩)

theorem read_off_ret {w : World} {x y z : Value} : CallsD Tryz.prog 22 #[x, y, z] .returning w fun e u' w' => e = .returned (.tuple #[]) ∧ u' = .returning ∧ w' = w := by
  refine enterS (n := 18) (l := []) Tryz.func22 rfl rfl rfl (lk_args_nil _) fun c₀ cs a hu ha => ?_
  refine wpS_recover_none (by simp [recoverD, hu]) ?_
  refine WC.inS ?_ (ha.put (d := 6) rfl .nilIface)
  refine WC.block ?_
  refine WC.sr ?_
  refine WL.run (C := fun _ => True) trivial rfl rfl rfl (ex_eqv (r := true) rfl rfl (fun w => by kernel_rfl) (fun w => by kernel_rfl)) ?_
  refine WL.nx ?_
  refine WC.cond_true rfl ?_
  refine WC.region ?_
  refine WL.ma rfl rfl ?_
  refine WL.nil ?_
  intro a ha
  exact ⟨ha.defers, .returning, by rw [← hu], _, results_none rfl _ _ _, rfl, rfl, rfl⟩
theorem read_off_panic {w0 : World} {H : View} {L : Seg} {w : World} {b_2 b_4 b_6 : Nat} {u i ev : Value} {e1 a1 : Int} (hS : St w0 H ([(b_2, Obj.cells #[u] 25 (0, 0))] ++ ([(b_4, Obj.cells #[i] 3 (0, 0))] ++ ([(b_6, Obj.cells #[ev] 27 (0, 0))] ++ L))) w) :
    CallsD Tryz.prog 22 #[.pointer (some ⟨b_2, 0, none⟩), .pointer (some ⟨b_4, 0, none⟩), .pointer (some ⟨b_6, 0, none⟩)] (.panicking (faultC e1 a1)) w fun e u' w' => e = .returned (.tuple #[]) ∧ settle u' = .returning ∧
      St w0 H ([(b_2, Obj.cells #[.nilIface] 25 (0, 0))] ++ ([(b_4, Obj.cells #[.int .i64 a1] 3 (0, 0))] ++ ([(b_6, Obj.cells #[.iface 57 (.int .i64 e1)] 27 (0, 0))] ++ L))) w' := by
  refine enterS (n := 18) (l := [(0, .pointer (some ⟨b_2, 0, none⟩)), (1, .pointer (some ⟨b_4, 0, none⟩)), (2, .pointer (some ⟨b_6, 0, none⟩))]) Tryz.func22 rfl rfl rfl (lk_args_cons rfl (lk_args_cons rfl (lk_args_cons rfl (lk_args_nil _)))) fun c₀ cs a hu ha => ?_
  refine wpS_recover_some (v := .iface 59 (.agg #[.int .i64 e1, .int .i64 a1])) (cs' := { c₀ with mode := .panicking [{ v := .iface 59 (.agg #[.int .i64 e1, .int .i64 a1]), recovered := true }] } :: cs) (by simp [recoverD, hu, faultC]) ?_
  refine WC.inS ?_ (ha.put (d := 6) rfl _)
  refine WC.block ?_
  refine WC.sr ?_
  refine WL.run hS rfl rfl rfl (ex_eqv (r := false) rfl rfl (fun w => by kernel_rfl) (fun w => by kernel_rfl)) ?_
  refine WL.nx ?_
  refine WC.cond_false rfl ?_
  refine WC.sr ?_
  refine WL.run hS rfl rfl rfl (v := .tuple #[.agg #[.int .i64 e1, .int .i64 a1], .bool true]) (fun w _ a ha => by
    have e1 := ha.eval (x := .tmp 6) rfl
    simp [execOp, e1, run_assert_ok (P := Tryz.prog) (at_ := 59) (by kernel_rfl) Tryz.zeroValue59]) ?_
  refine WL.run hS rfl rfl rfl (ex_extract rfl rfl) ?_
  refine WL.run hS rfl rfl rfl (ex_extract rfl rfl) ?_
  refine WL.nx ?_
  refine WC.cond_true rfl ?_
  refine WC.sr ?_
  refine WL.alloc (arr := #[.int .i64 0, .int .i64 0]) rfl Tryz.zeroValue59 rfl hS ?_
  clear hS
  intro b_11 w hS
  refine WL.store_box (pre := []) (old := [.int .i64 0, .int .i64 0]) (rst := []) (cs := [.int .i64 e1, .int .i64 a1]) (arr' := #[.int .i64 e1, .int .i64 a1]) Tryz.sizeOf59 rfl rfl rfl ⟨rfl, rfl, trivial⟩ rfl rfl rfl rfl hS ?_
  clear hS
  intro w hS
  refine WL.nx ?_
  replace hS := hS.f3.f4.f3
  refine WC.drawn (σ := [0, 1, 2, 3, 4, 5, 6, 7, 8]) (C := St w0 H ([(b_11, Obj.cells #[.int .i64 e1, .int .i64 a1] 59 (0, 0))] ++ ([(b_6, Obj.cells #[ev] 27 (0, 0))] ++ ([(b_4, Obj.cells #[i] 3 (0, 0))] ++ ([(b_2, Obj.cells #[u] 25 (0, 0))] ++ L))))) [[], [], [1], [], [3], [3, 4], [0], [0, 1, 2, 6], [0, 1, 2, 3, 4, 5, 6, 7]] [6, 7, 8] Tryz.mixed (by kernel_rfl) (hS.drawn _) ?_
  clear hS w
  refine Wd.run rfl rfl rfl rfl (fun _ => ex_build (vs := []) (zc := #[.nilIface]) (cs := #[.nilIface]) (places := #[(0, 1)]) Tryz.underlying25 Tryz.zeroValue25 (fun w => by simp [Tryz.sizeOf23]) rfl trivial rfl (by simp [Instr.fill, cells_int, cells_bool, cells_iface, cells_niliface, cells_slice, str_cells])) fun q_14 hq_13 => ?_
  refine Wd.run rfl rfl rfl rfl (fun _ => ex_fieldAddr (o' := 1) Tryz.underlying59 rfl Tryz.sizeOf3 rfl rfl) fun q_16 hq_15 => ?_
  refine Wd.runb (off := 1) rfl rfl rfl rfl (fun _ _ _ h => ex_load_box Tryz.isAgg3 rfl h) rfl (fun _ h => h) fun q_18 hq_17 => ?_
  refine Wd.run rfl rfl rfl rfl (fun _ => ex_fieldAddr (o' := 0) Tryz.underlying59 rfl Tryz.sizeOf57 rfl rfl) fun q_20 hq_19 => ?_
  refine Wd.runb (off := 0) rfl rfl rfl rfl (fun _ _ _ h => ex_load_box Tryz.isAgg57 rfl h) rfl (fun _ h => h) fun q_22 hq_21 => ?_
  refine Wd.run rfl rfl rfl rfl (fun _ => ex_makeIface (by kernel_rfl) rfl) fun q_24 hq_23 => ?_
  refine Wd.turn rfl rfl rfl fun w hS => ?_
  replace hS := hS.f4
  refine WL.store_box (pre := []) (old := [u]) (rst := []) (cs := [.nilIface]) (arr' := #[.nilIface]) Tryz.sizeOf25 rfl rfl rfl ⟨rfl, trivial⟩ rfl rfl rfl rfl hS ?_
  clear hS
  intro w hS
  refine WL.nil (DQ.mk2 (C' := St w0 H ([(b_2, Obj.cells #[.nilIface] 25 (0, 0))] ++ ([(b_11, Obj.cells #[.int .i64 e1, .int .i64 a1] 59 (0, 0))] ++ ([(b_6, Obj.cells #[ev] 27 (0, 0))] ++ ([(b_4, Obj.cells #[i] 3 (0, 0))] ++ L))))) hS ⟨.inr (hq_23 _), .inr (hq_21 H ([(b_2, Obj.cells #[.nilIface] 25 (0, 0))] ++ ([(b_6, Obj.cells #[ev] 27 (0, 0))] ++ ([(b_4, Obj.cells #[i] 3 (0, 0))] ++ L))) #[.int .i64 e1, .int .i64 a1] _ rfl (fun _ h => St.f2 h)), .inr (hq_19 _), .inr (hq_17 H ([(b_2, Obj.cells #[.nilIface] 25 (0, 0))] ++ ([(b_6, Obj.cells #[ev] 27 (0, 0))] ++ ([(b_4, Obj.cells #[i] 3 (0, 0))] ++ L))) #[.int .i64 e1, .int .i64 a1] _ rfl (fun _ h => St.f2 h)), .inr (hq_15 _), .inl rfl, trivial⟩ ?_)
  clear hS w
  refine Wd.turn rfl rfl rfl fun w hS => ?_
  replace hS := hS.f4
  refine WL.store_box (pre := []) (old := [i]) (rst := []) (cs := [.int .i64 a1]) (arr' := #[.int .i64 a1]) Tryz.sizeOf3 rfl rfl rfl ⟨rfl, trivial⟩ rfl rfl rfl rfl hS ?_
  clear hS
  intro w hS
  refine WL.nil (DQ.mk2 (C' := St w0 H ([(b_4, Obj.cells #[.int .i64 a1] 3 (0, 0))] ++ ([(b_2, Obj.cells #[.nilIface] 25 (0, 0))] ++ ([(b_11, Obj.cells #[.int .i64 e1, .int .i64 a1] 59 (0, 0))] ++ ([(b_6, Obj.cells #[ev] 27 (0, 0))] ++ L))))) hS ⟨.inr (hq_23 _), .inr (hq_21 H ([(b_4, Obj.cells #[.int .i64 a1] 3 (0, 0))] ++ ([(b_2, Obj.cells #[.nilIface] 25 (0, 0))] ++ ([(b_6, Obj.cells #[ev] 27 (0, 0))] ++ L))) #[.int .i64 e1, .int .i64 a1] _ rfl (fun _ h => St.f3 h)), .inr (hq_19 _), .inl rfl, .inl rfl, .inl rfl, trivial⟩ ?_)
  clear hS w
  refine Wd.turn rfl rfl rfl fun w hS => ?_
  replace hS := hS.f4
  refine WL.store_box (pre := []) (old := [ev]) (rst := []) (cs := [(.iface 57 (.int .i64 e1))]) (arr' := #[(.iface 57 (.int .i64 e1))]) Tryz.sizeOf27 rfl rfl rfl ⟨rfl, trivial⟩ rfl rfl rfl rfl hS ?_
  clear hS
  intro w hS
  refine WL.nil (DQ.mk2 (C' := St w0 H ([(b_6, Obj.cells #[(.iface 57 (.int .i64 e1))] 27 (0, 0))] ++ ([(b_4, Obj.cells #[.int .i64 a1] 3 (0, 0))] ++ ([(b_2, Obj.cells #[.nilIface] 25 (0, 0))] ++ ([(b_11, Obj.cells #[.int .i64 e1, .int .i64 a1] 59 (0, 0))] ++ L))))) hS ⟨.inl rfl, .inl rfl, .inl rfl, .inl rfl, .inl rfl, .inl rfl, trivial⟩ ?_)
  clear hS w
  refine Wd.nil fun w hS => ?_
  refine WQ.out nofun ?_
  intro a ha
  exact ⟨ha.defers, _, rfl, _, results_none rfl _ _ _, rfl, rfl, hS.f4.drop.f3.f3.f2⟩
theorem read_results {w0 : World} {H : View} {L : Seg} {w : World} {b_2 b_4 b_6 : Nat} {u ev : Value} {i : Int} {n : Nat} {l : List (Nat × Value)} {a : Act} (hS : St w0 H ([(b_2, Obj.cells #[u] 25 (0, 0))] ++ ([(b_4, Obj.cells #[.int .i64 i] 3 (0, 0))] ++ ([(b_6, Obj.cells #[ev] 27 (0, 0))] ++ L))) w) (ha : Fr n l a)
    (h2 : lk l 2 = some (.pointer (some ⟨b_2, 0, none⟩))) (h4 : lk l 3 = some (.pointer (some ⟨b_4, 0, none⟩))) (h6 : lk l 4 = some (.pointer (some ⟨b_6, 0, none⟩))) : (results Tryz.f8 a.tmps).run Tryz.prog w = .ok (.tuple #[.agg #[u], .int .i64 i, ev]) w := by
  have e2 := ha.val 2 _ h2
  have e4 := ha.val 3 _ h4
  have e6 := ha.val 4 _ h6
  have l2 : (loadVar 25 ⟨b_2, 0, none⟩).run Tryz.prog w = .ok (.agg #[u]) w := load_own_agg (k := 1) (cs := [u]) (fun w => by kernel_rfl) (fun w => by kernel_rfl) hS rfl
  have l4 : (loadVar 3 ⟨b_4, 0, none⟩).run Tryz.prog w = .ok (.int .i64 i) w := load_own (fun w => by kernel_rfl) hS.f2
  have l6 : (loadVar 27 ⟨b_6, 0, none⟩).run Tryz.prog w = .ok ev w := load_own (fun w => by kernel_rfl) hS.f3
  have hr : Tryz.f8.results = #[.cell 2 25, .cell 3 3, .cell 4 27] := rfl
  simp [results, hr, Array.getD_eq_getD_getElem?, e2, e4, e6, asAddr, l2, l4, l6]
theorem S_Read {w0 : World} {H : View} {L : Seg} {w : World} {text_1 : Str} {Q : Val → Int → (Option Int) → Prop} (hN : GlobN w0 H) (hS : St w0 H (L) w) (hV : V_Read text_1 Q) :
    Calls Tryz.prog 8 #[sv text_1] w fun e w' => ∃ (r1 : Val) (r2 : Int) (r3 : Option Int) (u1 : Value) (H' : View), Q r1 r2 r3 ∧ e = .returned (.tuple #[.agg #[u1], .int .i64 r2, errV 57 r3]) ∧ View.le H H' ∧ IsW H' u1 r1 ∧ I64 r2 ∧ St w0 H' (L) w' := by
  obtain ⟨hl, hbig, hsm⟩ := hV
  refine enterD Tryz.func8 rfl Tryz.ntmps8 rfl (lk_args_cons (d := 0) (v := sv text_1) rfl (lk_args_nil _)) ?_
  refine WC.sr ?_
  refine WL.alloc (arr := #[.nilIface]) rfl Tryz.zeroValue25 rfl hS ?_
  clear hS
  intro b_2 w hS
  refine WL.alloc (arr := #[.int .i64 0]) rfl Tryz.zeroValue3 rfl hS ?_
  clear hS
  intro b_4 w hS
  refine WL.alloc (arr := #[.nilIface]) rfl Tryz.zeroValue27 rfl hS ?_
  clear hS
  intro b_6 w hS
  refine WL.nx ?_
  refine WC.sr ?_
  refine WL.run hS rfl rfl rfl (ex_makeFunc (fn := .func 22) (xs := [.tmp 2, .tmp 3, .tmp 4]) (vs := [.pointer (some ⟨b_2, 0, none⟩), .pointer (some ⟨b_4, 0, none⟩), .pointer (some ⟨b_6, 0, none⟩)]) ⟨rfl, rfl, rfl, trivial⟩) ?_
  refine WL.defer (f := 22) (cap := #[.pointer (some ⟨b_2, 0, none⟩), .pointer (some ⟨b_4, 0, none⟩), .pointer (some ⟨b_6, 0, none⟩)]) rfl (fun a ha => by
    have e6 : a.eval (.tmp 6) = .func (.func 22) #[] #[.pointer (some ⟨b_2, 0, none⟩), .pointer (some ⟨b_4, 0, none⟩), .pointer (some ⟨b_6, 0, none⟩)] := ha.eval rfl
    simp [execOp, resolve, Deferred.ofValue, e6]) ?_
  -- how it ends
  have fin : ∀ {w : World} {H' : View} {u ev : Value} {i : Int} {r1 : Val} {r3 : Option Int} {l : List (Nat × Value)} {a : Act} {e : Exit}, (e = .ret ∨ e = .normal) → St w0 H' ([(b_2, Obj.cells #[u] 25 (0, 0))] ++ ([(b_4, Obj.cells #[.int .i64 i] 3 (0, 0))] ++ ([(b_6, Obj.cells #[ev] 27 (0, 0))] ++ L))) w → View.le H H' → IsW H' u r1 → I64 i → ev = errV 57 r3 → Q r1 i r3 →
      lk l 2 = some (.pointer (some ⟨b_2, 0, none⟩)) → lk l 3 = some (.pointer (some ⟨b_4, 0, none⟩)) → lk l 4 = some (.pointer (some ⟨b_6, 0, none⟩)) → FrD [{ target := .fn (.func 22) #[.pointer (some ⟨b_2, 0, none⟩), .pointer (some ⟨b_4, 0, none⟩), .pointer (some ⟨b_6, 0, none⟩)], args := #[] }] 37 l a →
      bodyPostD Tryz.prog Tryz.f8 (fun e w' => ∃ (r1 : Val) (r2 : Int) (r3 : Option Int) (u1 : Value) (H' : View), Q r1 r2 r3 ∧ e = .returned (.tuple #[.agg #[u1], .int .i64 r2, errV 57 r3]) ∧ View.le H H' ∧ IsW H' u1 r1 ∧ I64 r2 ∧ St w0 H' (L) w') e a w := fun {w H' u ev i r1 r3 l a e} he hS hle hu hi hev hQ h2 h4 h6 ha => by
    have main : Leaves Tryz.prog Tryz.f8 a.tmps (fun e w' => ∃ (r1 : Val) (r2 : Int) (r3 : Option Int) (u1 : Value) (H' : View), Q r1 r2 r3 ∧ e = .returned (.tuple #[.agg #[u1], .int .i64 r2, errV 57 r3]) ∧ View.le H H' ∧ IsW H' u1 r1 ∧ I64 r2 ∧ St w0 H' (L) w') a.defers .returning w := by
      rw [ha.1]
      refine leaves_cons (by simp) (f := 22) (args := #[.pointer (some ⟨b_2, 0, none⟩), .pointer (some ⟨b_4, 0, none⟩), .pointer (some ⟨b_6, 0, none⟩)]) (by kernel_rfl) (read_off_ret.mono ?_)
      rintro e u' w' ⟨rfl, rfl, rfl⟩
      exact leaves_nil (read_results (a := { a with defers := [] }) hS ha.2 h2 h4 h6) ⟨r1, i, r3, u, H', hQ, by rw [hev], hle, hu, hi, hS.drop.drop.drop⟩
    rcases he with rfl | rfl <;> exact main
  have pan : ∀ {w : World} {H' : View} {u ev i : Value} {e1 a1 : Int} {l : List (Nat × Value)} {a : Act}, St w0 H' ([(b_2, Obj.cells #[u] 25 (0, 0))] ++ ([(b_4, Obj.cells #[i] 3 (0, 0))] ++ ([(b_6, Obj.cells #[ev] 27 (0, 0))] ++ L))) w → View.le H H' → I64 a1 → Q .nil a1 (some e1) →
      lk l 2 = some (.pointer (some ⟨b_2, 0, none⟩)) → lk l 3 = some (.pointer (some ⟨b_4, 0, none⟩)) → lk l 4 = some (.pointer (some ⟨b_6, 0, none⟩)) → Fr 37 l a →
      bodyPostD Tryz.prog Tryz.f8 (fun e w' => ∃ (r1 : Val) (r2 : Int) (r3 : Option Int) (u1 : Value) (H' : View), Q r1 r2 r3 ∧ e = .returned (.tuple #[.agg #[u1], .int .i64 r2, errV 57 r3]) ∧ View.le H H' ∧ IsW H' u1 r1 ∧ I64 r2 ∧ St w0 H' (L) w') (.panic (faultC e1 a1)) { a with defers := a.defers ++ [{ target := .fn (.func 22) #[.pointer (some ⟨b_2, 0, none⟩), .pointer (some ⟨b_4, 0, none⟩), .pointer (some ⟨b_6, 0, none⟩)], args := #[] }] } w := fun {w H' u ev i e1 a1 l a} hS hle hi hQ h2 h4 h6 ha => by
    show Leaves Tryz.prog Tryz.f8 a.tmps _ (a.defers ++ _) (.panicking (faultC e1 a1)) w
    rw [ha.defers, List.nil_append]
    refine leaves_cons (by simp) (f := 22) (args := #[.pointer (some ⟨b_2, 0, none⟩), .pointer (some ⟨b_4, 0, none⟩), .pointer (some ⟨b_6, 0, none⟩)]) (by kernel_rfl) ((read_off_panic hS).mono ?_)
    rintro e u' w' ⟨rfl, hu, hS⟩
    show Leaves _ _ _ _ [] (settle u') w'
    rw [hu]
    exact leaves_nil (read_results hS ha h2 h4 h6) ⟨.nil, a1, some e1, .nilIface, H', hQ, rfl, hle, IsW.nil, hi, hS.drop.drop.drop⟩
  refine WCD.seq ?_
  refine WCD.sr ?_
  refine WL.mv rfl rfl ?_
  refine WL.run hS rfl rfl rfl (ex_s_len Tryz.underlying9 rfl) ?_
  refine WL.run hS rfl rfl rfl (ex_gtr rfl rfl) ?_
  refine WL.nxD ?_
  refine WCD.cond rfl ?_ ?_
  · intro hc_52
    have hQ := hbig (of_decide_eq_true hc_52)
    refine WCD.sr ?_
    refine WL.run hS rfl rfl rfl (ex_build (vs := []) (zc := #[.nilIface]) (cs := #[.nilIface]) (places := #[(0, 1)]) Tryz.underlying25 Tryz.zeroValue25 (fun w => by simp [Tryz.sizeOf23]) rfl trivial rfl (by simp [Instr.fill, cells_int, cells_bool, cells_iface, cells_niliface, cells_slice, str_cells])) ?_
    refine WL.run hS rfl rfl rfl (ex_makeIface (by kernel_rfl) rfl) ?_
    replace hS := hS.f3
    refine WL.store_box (pre := []) (old := [.nilIface]) (rst := []) (cs := [.nilIface]) (arr' := #[.nilIface]) Tryz.sizeOf25 rfl rfl rfl ⟨rfl, trivial⟩ rfl rfl rfl rfl hS ?_
    clear hS
    intro w hS
    replace hS := hS.f3
    refine WL.store_box (pre := []) (old := [.int .i64 0]) (rst := []) (cs := [.int .i64 (0 : Int)]) (arr' := #[.int .i64 (0 : Int)]) Tryz.sizeOf3 rfl rfl rfl ⟨rfl, trivial⟩ rfl rfl rfl rfl hS ?_
    clear hS
    intro w hS
    replace hS := hS.f3
    refine WL.store_box (pre := []) (old := [.nilIface]) (rst := []) (cs := [(.iface 57 (.int .i64 (6 : Int)))]) (arr' := #[(.iface 57 (.int .i64 (6 : Int)))]) (by first | exact Tryz.sizeOf27 | exact fun w => by kernel_rfl) rfl rfl rfl ⟨rfl, trivial⟩ rfl rfl rfl rfl hS ?_
    clear hS
    intro w hS
    refine WL.nxD ?_
    refine WCD.ret ?_
    refine WQD.pass nofun ?_
    exact fun a ha => fin (.inl rfl) hS.f2.f3 (View.le.refl _) IsW.nil (by unfold I64; omega) (r3 := some 6) rfl hQ rfl rfl rfl ha
  · intro hc_52
    obtain ⟨mf, hV⟩ := hsm (of_decide_eq_false hc_52)
    refine WCD.skip ?_
    refine WQD.next ?_
    refine WCD.sr ?_
    refine WL.mv rfl rfl ?_
    refine WL.run hS rfl rfl rfl (ex_build (vs := [sv text_1]) (zc := #[sv ([] : Str), .int .i64 0, .int .i64 0, .bool false]) (cs := #[sv text_1, .int .i64 0, .int .i64 0, .bool false]) (places := #[(0, 1), (1, 1), (2, 1), (3, 1)]) Tryz.underlying62 Tryz.zeroValue62 (fun w => by simp [Tryz.sizeOf3, Tryz.sizeOf4, Tryz.sizeOf9]) rfl ⟨rfl, trivial⟩ rfl (by simp [Instr.fill, cells_int, cells_bool, cells_iface, cells_niliface, cells_slice, str_cells])) ?_
    refine WL.box (arr := #[sv text_1, .int .i64 0, .int .i64 0, .bool false]) rfl rfl rfl hS ?_
    clear hS
    intro b_10 w hS
    refine WL.ma rfl rfl ?_
    refine WL.nxD ?_
    refine WCD.sr ?_
    refine WL.mv rfl rfl ?_
    refine WL.callP rfl rfl rfl (enters0 (vs := [.pointer (some ⟨b_10, 0, none⟩)]) Tryz.call23 ⟨rfl, trivial⟩) (S_value mf (show I64 0 by unfold I64; omega) (show I64 0 by unfold I64; omega) hN hS hV) (by rintro _ w ⟨e_22, xat_23, hE_24, rfl, H_25, le_26, hS⟩; exact ⟨_, rfl, fun a ha => pan hS.f2.f3 le_26 hE_24.1 hE_24.2 rfl rfl rfl ha⟩) ?_
    clear hV hS
    rintro _ w ⟨r_12, r_15, r_17, r_19, u_13, H_20, hV, rfl, le_21, h_14, hr_16, hr_18, hS⟩
    refine ⟨_, rfl, ?_⟩
    replace hS := hS.f4
    refine WL.store_box (pre := []) (old := [.nilIface]) (rst := []) (cs := [u_13]) (arr' := #[u_13]) Tryz.sizeOf25 rfl rfl rfl ⟨(IsW.one h_14), trivial⟩ rfl rfl rfl rfl hS ?_
    clear hS
    intro w hS
    refine WL.nxD ?_
    refine WCD.sr ?_
    refine WL.mv rfl rfl ?_
    replace hS := hS.f2
    refine WL.call rfl rfl rfl (enters0 (vs := [.pointer (some ⟨b_10, 0, none⟩)]) Tryz.call24 ⟨rfl, trivial⟩) (S_skip hr_16 hr_18 hS hV) ?_
    clear hV hS
    rintro _ w ⟨r_27, hV, rfl, hr_28, hS⟩
    refine ⟨_, rfl, ?_⟩
    refine WL.nxD ?_
    refine WCD.seq ?_
    refine WCD.block ?_
    refine WCD.sr ?_
    refine WL.mv rfl rfl ?_
    refine WL.run hS rfl rfl rfl (ex_nilCheck rfl) ?_
    refine WL.run hS rfl rfl rfl (ex_fieldAddr (o' := 1) Tryz.underlying62 rfl Tryz.sizeOf3 rfl rfl) ?_
    refine WL.run hS rfl rfl rfl (ex_load_box Tryz.isAgg3 rfl rfl) ?_
    refine WL.mv rfl rfl ?_
    refine WL.run hS rfl rfl rfl (ex_s_len Tryz.underlying9 rfl) ?_
    refine WL.run hS rfl rfl rfl (ex_lss rfl rfl) ?_
    refine WL.ma rfl rfl ?_
    refine WL.nxD ?_
    refine WCD.cond rfl ?_ ?_
    · intro hc_51
      have hQ := hV.1 (of_decide_eq_true hc_51)
      refine WCD.region ?_
      refine WL.mv rfl rfl ?_
      have hF : V_fail text_1 r_27 r_17 r_19 (1 : Int) (fun e a => I64 a ∧ Q .nil a (some e)) False := ⟨hr_28, hQ⟩
      refine WL.callP rfl rfl rfl (enters0 (vs := [.pointer (some ⟨b_10, 0, none⟩), .int .i64 (1 : Int)]) Tryz.call25 ⟨rfl, rfl, trivial⟩) (S_fail hr_28 hr_18 (show I64 (1 : Int) by unfold I64; omega) hS hF) (by rintro _ w ⟨e_45, xat_46, hE_47, rfl, H_48, le_49, hS⟩; exact ⟨_, rfl, fun a ha => pan hS.f3.f2 (le_21.trans le_49) hE_47.1 hE_47.2 rfl rfl rfl ha⟩) ?_
      rintro _ w ⟨hV, rfl, hS⟩
      exact hV.elim
    · intro hc_51
      have hV2 := hV.2 (of_decide_eq_false hc_51)
      refine WCD.sr ?_
      refine WL.mv rfl rfl ?_
      refine WL.run hS rfl rfl rfl (ex_nilCheck rfl) ?_
      refine WL.run hS rfl rfl rfl (ex_fieldAddr (o' := 3) Tryz.underlying62 rfl Tryz.sizeOf4 rfl rfl) ?_
      refine WL.run hS rfl rfl rfl (ex_load_box Tryz.isAgg4 rfl rfl) ?_
      refine WL.ma rfl rfl ?_
      refine WL.nxD ?_
      replace hS := hS.drop
      refine WCD.cond rfl ?_ ?_
      · intro hc_50
        have hQ := hV2.1 hc_50
        refine WCD.sr ?_
        refine WL.run hS rfl rfl rfl (ex_build (vs := []) (zc := #[.nilIface]) (cs := #[.nilIface]) (places := #[(0, 1)]) Tryz.underlying25 Tryz.zeroValue25 (fun w => by simp [Tryz.sizeOf23]) rfl trivial rfl (by simp [Instr.fill, cells_int, cells_bool, cells_iface, cells_niliface, cells_slice, str_cells])) ?_
        refine WL.run hS rfl rfl rfl (ex_makeIface (by kernel_rfl) rfl) ?_
        refine WL.store_box (pre := []) (old := [u_13]) (rst := []) (cs := [.nilIface]) (arr' := #[.nilIface]) Tryz.sizeOf25 rfl rfl rfl ⟨rfl, trivial⟩ rfl rfl rfl rfl hS ?_
        clear hS
        intro w hS
        replace hS := hS.f3
        refine WL.store_box (pre := []) (old := [.int .i64 0]) (rst := []) (cs := [.int .i64 (0 : Int)]) (arr' := #[.int .i64 (0 : Int)]) Tryz.sizeOf3 rfl rfl rfl ⟨rfl, trivial⟩ rfl rfl rfl rfl hS ?_
        clear hS
        intro w hS
        replace hS := hS.f3
        refine WL.store_box (pre := []) (old := [.nilIface]) (rst := []) (cs := [(.iface 57 (.int .i64 (6 : Int)))]) (arr' := #[(.iface 57 (.int .i64 (6 : Int)))]) (fun w => by kernel_rfl) rfl rfl rfl ⟨rfl, trivial⟩ rfl rfl rfl rfl hS ?_
        clear hS
        intro w hS
        refine WL.nxD ?_
        refine WCD.ret ?_
        refine WQD.out nofun ?_
        refine WQD.pass nofun ?_
        exact fun a ha => fin (.inl rfl) hS.f3.f3.f2 le_21 IsW.nil (by unfold I64; omega) (r3 := some 6) rfl hQ rfl rfl rfl ha
      · intro hc_50
        have hQ := hV2.2 hc_50
        refine WCD.skip ?_
        refine WQD.out nofun ?_
        refine WQD.next ?_
        refine WCD.sr ?_
        refine WL.run hS rfl rfl rfl (ex_load_box_agg (cs := [u_13]) Tryz.isAgg25 Tryz.sizeOf25 rfl rfl rfl) ?_
        refine WL.store_box (pre := []) (old := [u_13]) (rst := []) (cs := [u_13]) (arr' := #[u_13]) Tryz.sizeOf25 rfl rfl rfl ⟨(IsW.one h_14), trivial⟩ rfl rfl rfl rfl hS ?_
        clear hS
        intro w hS
        replace hS := hS.f3
        refine WL.store_box (pre := []) (old := [.int .i64 0]) (rst := []) (cs := [.int .i64 (0 : Int)]) (arr' := #[.int .i64 (0 : Int)]) Tryz.sizeOf3 rfl rfl rfl ⟨rfl, trivial⟩ rfl rfl rfl rfl hS ?_
        clear hS
        intro w hS
        replace hS := hS.f3
        refine WL.store_box (pre := []) (old := [.nilIface]) (rst := []) (cs := [.nilIface]) (arr' := #[.nilIface]) (fun w => by kernel_rfl) rfl rfl rfl ⟨rfl, trivial⟩ rfl rfl rfl rfl hS ?_
        clear hS
        intro w hS
        refine WL.nxD ?_
        refine WCD.ret ?_
        exact fun a ha => fin (.inl rfl) hS.f3.f3.f2 le_21 h_14 (by unfold I64; omega) (r3 := none) rfl hQ rfl rfl rfl ha


theorem S_lives {w0 : World} {H : View} {L : Seg} {w : World}  {Q : Bool → Prop} (hN : GlobN w0 H) (hS : St w0 H (L) w) (hV : V_lives  Q) :
 Calls Tryz.prog 21 #[] w fun e w' => ∃ (r1 : Bool), Q r1 ∧ e = .returned (.bool r1) ∧ St w0 H (L) w' := by
 unfold V_lives at hV
 refine enter Tryz.func21 rfl Tryz.ntmps21 rfl (lk_args_nil _) ?_
 refine WC.sr ?_
 refine WL.ma rfl rfl ?_
 refine WL.nx ?_
 refine WC.sr ?_
 refine WL.call rfl rfl rfl (enters0 (vs := [sv ([123, 50, 44, 32, 49, 125] : Str)]) Tryz.call8 ⟨rfl, trivial⟩) (S_Read hN hS hV) ?_
 clear hV hS
 rintro _ w ⟨r_1, r_4, r_6, u_2, H_7, hV, rfl, le_8, h_3, hr_5, hS⟩
 refine ⟨_, rfl, ?_⟩
 refine WL.mv rfl rfl ?_
 refine WL.run hS rfl rfl rfl (ex_extract rfl rfl) ?_
 refine WL.run hS rfl rfl rfl (ex_extract rfl rfl) ?_
 refine WL.run hS rfl rfl rfl (ex_extract rfl rfl) ?_
 refine WL.alloc (arr := #[.nilIface]) rfl Tryz.zeroValue25 rfl hS ?_
 clear hS
 intro b_9 w hS
 refine WL.store_box (pre := []) (old := [.nilIface]) (rst := []) (cs := [u_2]) (arr' := #[u_2]) Tryz.sizeOf25 rfl rfl rfl ⟨(IsW.one h_3), trivial⟩ rfl rfl rfl rfl hS ?_
 clear hS
 intro w hS
 refine WL.ma rfl rfl ?_
 refine WL.ma rfl rfl ?_
 refine WL.nx ?_
 refine WC.sr ?_
 refine WL.run hS rfl rfl rfl (ex_load_box_agg (cs := [u_2]) Tryz.isAgg25 Tryz.sizeOf25 rfl rfl rfl) ?_
 refine WL.call rfl rfl rfl (enters0 (vs := [.agg #[u_2]]) Tryz.call11 ⟨rfl, trivial⟩) (S_Show h_3 (hN.mono le_8) hS hV) ?_
 clear hV hS
 rintro _ w ⟨r_11, hV, rfl, hS⟩
 refine ⟨_, rfl, ?_⟩
 refine WL.ma rfl rfl ?_
 refine WL.nx ?_
 refine WC.sr ?_
 refine WL.run hS rfl rfl rfl (ex_load_box_agg (cs := [u_2]) Tryz.isAgg25 Tryz.sizeOf25 rfl rfl rfl) ?_
 refine WL.call rfl rfl rfl (enters0 (vs := [.agg #[u_2]]) Tryz.call13 ⟨rfl, trivial⟩) (S_Weight h_3 hS hV) ?_
 clear hV hS
 rintro _ w ⟨r_13, hV, rfl, hr_14, hS⟩
 refine ⟨_, rfl, ?_⟩
 refine WL.ma rfl rfl ?_
 refine WL.nx ?_
 refine WC.sub (m := [(1, (pq b_9)), (3, (errV 57 r_6)), (4, sv r_11), (5, i6 r_13)]) ⟨rfl, rfl, rfl, rfl, trivial⟩ ?_
 refine WC.sr ?_
 refine WL.call rfl rfl rfl (enters0 (vs := [sv ([110, 105, 108] : Str)]) Tryz.call8 ⟨rfl, trivial⟩) (S_Read (hN.mono le_8) hS hV) ?_
 clear hV hS
 rintro _ w ⟨r_16, r_19, r_21, u_17, H_22, hV, rfl, le_23, h_18, hr_20, hS⟩
 refine ⟨_, rfl, ?_⟩
 refine WL.mv rfl rfl ?_
 refine WL.run hS rfl rfl rfl (ex_extract rfl rfl) ?_
 refine WL.run hS rfl rfl rfl (ex_extract rfl rfl) ?_
 refine WL.run hS rfl rfl rfl (ex_extract rfl rfl) ?_
 refine WL.alloc (arr := #[.nilIface]) rfl Tryz.zeroValue25 rfl hS ?_
 clear hS
 intro b_24 w hS
 refine WL.store_box (pre := []) (old := [.nilIface]) (rst := []) (cs := [u_17]) (arr' := #[u_17]) Tryz.sizeOf25 rfl rfl rfl ⟨(IsW.one h_18), trivial⟩ rfl rfl rfl rfl hS ?_
 clear hS
 intro w hS
 refine WL.ma rfl rfl ?_
 refine WL.ma rfl rfl ?_
 refine WL.nx ?_
 refine WC.sr ?_
 replace hS := hS.f2
 refine WL.run hS rfl rfl rfl (ex_load_box_agg (cs := [u_2]) Tryz.isAgg25 Tryz.sizeOf25 rfl rfl rfl) ?_
 replace hS := hS.f2
 refine WL.run hS rfl rfl rfl (ex_load_box_agg (cs := [u_17]) Tryz.isAgg25 Tryz.sizeOf25 rfl rfl rfl) ?_
 obtain ⟨mf, hV⟩ := hV
 refine WL.call rfl rfl rfl (enters0 (vs := [.agg #[u_2], .agg #[u_17]]) Tryz.call19 ⟨rfl, rfl, trivial⟩) (S_Compare mf (h_3.mono le_23) h_18 hS hV) ?_
 clear hV hS
 rintro _ w ⟨r_26, hV, rfl, hr_27, hS⟩
 refine ⟨_, rfl, ?_⟩
 refine WL.ma rfl rfl ?_
 refine WL.nx ?_
 refine WC.sub (m := [(3, (errV 57 r_6)), (4, sv r_11), (5, i6 r_13), (9, i6 r_26)]) ⟨rfl, rfl, rfl, rfl, trivial⟩ ?_
 replace hS := hS.f2.drop
 replace hS := hS.drop
 obtain ⟨J_35, hJ_36, hV⟩ := hV
 refine WC.meet (fun a w => ∃ (x_34 : Bool), J_35 x_34 ∧ St w0 H_22 (L) w ∧ Fr 41 [(0, .bool x_34)] a) ?_ ?_
 rintro a w ⟨x_34, hI, hS, ha⟩
 refine in_frame ha ?_
 clear ha hV
 have hV := hJ_36 _ hI
 clear hI hJ_36
 refine WC.ret ?_
 exact leave1 rfl rfl (⟨x_34, hV, rfl, (hS.weaken (((View.le.refl _).trans le_8).trans le_23))⟩)
 clear hJ_36
 refine WC.region ?_
 refine WL.mv rfl rfl ?_
 refine WL.run hS rfl rfl rfl (ex_err_eql (T := 57) (e := r_6) Tryz.iface27 rfl rfl) ?_
 refine WL.mv rfl rfl ?_
 rcases Bool.eq_false_or_eq_true (decide (r_6 = none)) with hg_37 | hg_37
 replace hV := hV.1 (of_decide_eq_true hg_37)
 refine WL.unguard rfl rfl hg_37 ?_
 refine WL.mv rfl rfl ?_
 refine WL.unguard rfl rfl hg_37 ?_
 refine WL.run hS rfl rfl rfl (ex_s_eql rfl rfl) ?_
 refine WL.run hS rfl rfl rfl (ex_pick_t rfl hg_37 rfl) ?_
 refine WL.mv rfl rfl ?_
 rcases Bool.eq_false_or_eq_true (decide (r_11 = ([123, 49, 44, 32, 50, 125] : Str))) with hg_38 | hg_38
 replace hV := hV.1 (of_decide_eq_true hg_38)
 refine WL.unguard rfl rfl hg_38 ?_
 refine WL.mv rfl rfl ?_
 refine WL.unguard rfl rfl hg_38 ?_
 refine WL.run hS rfl rfl rfl (ex_eql rfl rfl) ?_
 refine WL.run hS rfl rfl rfl (ex_pick_t rfl hg_38 rfl) ?_
 refine WL.mv rfl rfl ?_
 rcases Bool.eq_false_or_eq_true (decide (r_13 = (3 : Int))) with hg_40 | hg_40
 replace hV := hV.1 (of_decide_eq_true hg_40)
 refine WL.unguard rfl rfl hg_40 ?_
 refine WL.mv rfl rfl ?_
 refine WL.unguard rfl rfl hg_40 ?_
 refine WL.run hS rfl rfl rfl (ex_eql rfl rfl) ?_
 refine WL.run hS rfl rfl rfl (ex_pick_t rfl hg_40 rfl) ?_
 refine WL.ma rfl rfl ?_
 refine WL.nil ?_
 exact WQ.there fun a ha => ⟨decide (r_26 = (1 : Int)), hV, hS, ha.of_sub ⟨rfl, trivial⟩⟩
 replace hV := hV.2 (of_decide_eq_false hg_40)
 refine WL.skip_g rfl rfl rfl hg_40 rfl rfl ?_
 refine WL.skip_g rfl rfl rfl hg_40 rfl rfl ?_
 refine WL.run hS rfl rfl rfl (ex_pick_f rfl hg_40 rfl) ?_
 refine WL.ma rfl rfl ?_
 refine WL.nil ?_
 exact WQ.there fun a ha => ⟨false, hV, hS, ha.of_sub ⟨rfl, trivial⟩⟩
 replace hV := hV.2 (of_decide_eq_false hg_38)
 refine WL.skip_g rfl rfl rfl hg_38 rfl rfl ?_
 refine WL.skip_g rfl rfl rfl hg_38 rfl rfl ?_
 refine WL.run hS rfl rfl rfl (ex_pick_f rfl hg_38 rfl) ?_
 refine WL.mv rfl rfl ?_
 refine WL.skip_g rfl rfl rfl rfl rfl rfl ?_
 refine WL.skip_g rfl rfl rfl rfl rfl rfl ?_
 refine WL.run hS rfl rfl rfl (ex_pick_f rfl rfl rfl) ?_
 refine WL.ma rfl rfl ?_
 refine WL.nil ?_
 exact WQ.there fun a ha => ⟨false, hV, hS, ha.of_sub ⟨rfl, trivial⟩⟩
 replace hV := hV.2 (of_decide_eq_false hg_37)
 refine WL.skip_g rfl rfl rfl hg_37 rfl rfl ?_
 refine WL.skip_g rfl rfl rfl hg_37 rfl rfl ?_
 refine WL.run hS rfl rfl rfl (ex_pick_f rfl hg_37 rfl) ?_
 refine WL.mv rfl rfl ?_
 refine WL.skip_g rfl rfl rfl rfl rfl rfl ?_
 refine WL.skip_g rfl rfl rfl rfl rfl rfl ?_
 refine WL.run hS rfl rfl rfl (ex_pick_f rfl rfl rfl) ?_
 refine WL.mv rfl rfl ?_
 refine WL.skip_g rfl rfl rfl rfl rfl rfl ?_
 refine WL.skip_g rfl rfl rfl rfl rfl rfl ?_
 refine WL.run hS rfl rfl rfl (ex_pick_f rfl rfl rfl) ?_
 refine WL.ma rfl rfl ?_
 refine WL.nil ?_
 exact WQ.there fun a ha => ⟨false, hV, hS, ha.of_sub ⟨rfl, trivial⟩⟩

theorem S_ValueSorts {w0 : World} {H : View} {L : Seg} {w : World} {a_1 : Str} {b_2 : Str} {c_3 : Str} {Q : Bool → Prop} (hN : GlobN w0 H) (hS : St w0 H (L) w) (hV : V_ValueSorts a_1 b_2 c_3 Q) :
 Calls Tryz.prog 6 #[sv a_1, sv b_2, sv c_3] w fun e w' => ∃ (r1 : Bool), Q r1 ∧ e = .returned (.bool r1) ∧ St w0 H (L) w' := by
 unfold V_ValueSorts at hV
 refine enter Tryz.func6 rfl Tryz.ntmps6 rfl (lk_args_cons (d := 0) (v := sv a_1) rfl (lk_args_cons (d := 1) (v := sv b_2) rfl (lk_args_cons (d := 2) (v := sv c_3) rfl (lk_args_nil _)))) ?_
 refine WC.sr ?_
 refine WL.ma rfl rfl ?_
 refine WL.nx ?_
 refine WC.sr ?_
 refine WL.call rfl rfl rfl (enters0 (vs := []) Tryz.call21 trivial) (S_lives hN hS hV) ?_
 clear hV hS
 rintro _ w ⟨r_4, hV, rfl, hS⟩
 refine ⟨_, rfl, ?_⟩
 refine WL.ma rfl rfl ?_
 refine WL.nx ?_
 refine WC.sr ?_
 refine WL.mv rfl rfl ?_
 refine WL.call rfl rfl rfl (enters0 (vs := [sv a_1]) Tryz.call8 ⟨rfl, trivial⟩) (S_Read hN hS hV) ?_
 clear hV hS
 rintro _ w ⟨r_6, r_9, r_11, u_7, H_12, hV, rfl, le_13, h_8, hr_10, hS⟩
 refine ⟨_, rfl, ?_⟩
 refine WL.mv rfl rfl ?_
 refine WL.run hS rfl rfl rfl (ex_extract rfl rfl) ?_
 refine WL.run hS rfl rfl rfl (ex_extract rfl rfl) ?_
 refine WL.run hS rfl rfl rfl (ex_extract rfl rfl) ?_
 refine WL.alloc (arr := #[.nilIface]) rfl Tryz.zeroValue25 rfl hS ?_
 clear hS
 intro b_14 w hS
 refine WL.store_box (pre := []) (old := [.nilIface]) (rst := []) (cs := [u_7]) (arr' := #[u_7]) Tryz.sizeOf25 rfl rfl rfl ⟨(IsW.one h_8), trivial⟩ rfl rfl rfl rfl hS ?_
 clear hS
 intro w hS
 refine WL.ma rfl rfl ?_
 refine WL.ma rfl rfl ?_
 refine WL.nx ?_
 refine WC.sub (m := [(1, sv b_2), (2, sv c_3), (7, .bool r_4), (8, (pq b_14))]) ⟨rfl, rfl, rfl, rfl, trivial⟩ ?_
 refine WC.sr ?_
 refine WL.mv rfl rfl ?_
 refine WL.call rfl rfl rfl (enters0 (vs := [sv b_2]) Tryz.call8 ⟨rfl, trivial⟩) (S_Read (hN.mono le_13) hS hV) ?_
 clear hV hS
 rintro _ w ⟨r_16, r_19, r_21, u_17, H_22, hV, rfl, le_23, h_18, hr_20, hS⟩
 refine ⟨_, rfl, ?_⟩
 refine WL.mv rfl rfl ?_
 refine WL.run hS rfl rfl rfl (ex_extract rfl rfl) ?_
 refine WL.run hS rfl rfl rfl (ex_extract rfl rfl) ?_
 refine WL.run hS rfl rfl rfl (ex_extract rfl rfl) ?_
 refine WL.alloc (arr := #[.nilIface]) rfl Tryz.zeroValue25 rfl hS ?_
 clear hS
 intro b_24 w hS
 refine WL.store_box (pre := []) (old := [.nilIface]) (rst := []) (cs := [u_17]) (arr' := #[u_17]) Tryz.sizeOf25 rfl rfl rfl ⟨(IsW.one h_18), trivial⟩ rfl rfl rfl rfl hS ?_
 clear hS
 intro w hS
 refine WL.ma rfl rfl ?_
 refine WL.ma rfl rfl ?_
 refine WL.nx ?_
 refine WC.sr ?_
 refine WL.mv rfl rfl ?_
 refine WL.call rfl rfl rfl (enters0 (vs := [sv c_3]) Tryz.call8 ⟨rfl, trivial⟩) (S_Read ((hN.mono le_13).mono le_23) hS hV) ?_
 clear hV hS
 rintro _ w ⟨r_26, r_29, r_31, u_27, H_32, hV, rfl, le_33, h_28, hr_30, hS⟩
 refine ⟨_, rfl, ?_⟩
 refine WL.mv rfl rfl ?_
 refine WL.run hS rfl rfl rfl (ex_extract rfl rfl) ?_
 refine WL.run hS rfl rfl rfl (ex_extract rfl rfl) ?_
 refine WL.run hS rfl rfl rfl (ex_extract rfl rfl) ?_
 refine WL.alloc (arr := #[.nilIface]) rfl Tryz.zeroValue25 rfl hS ?_
 clear hS
 intro b_34 w hS
 refine WL.store_box (pre := []) (old := [.nilIface]) (rst := []) (cs := [u_27]) (arr' := #[u_27]) Tryz.sizeOf25 rfl rfl rfl ⟨(IsW.one h_28), trivial⟩ rfl rfl rfl rfl hS ?_
 clear hS
 intro w hS
 refine WL.ma rfl rfl ?_
 refine WL.ma rfl rfl ?_
 refine WL.nx ?_
 refine WC.sub (m := [(7, .bool r_4), (8, (pq b_14)), (11, (pq b_24)), (14, (pq b_34))]) ⟨rfl, rfl, rfl, rfl, trivial⟩ ?_
 refine WC.sr ?_
 replace hS := hS.f3
 refine WL.run hS rfl rfl rfl (ex_load_box_agg (cs := [u_7]) Tryz.isAgg25 Tryz.sizeOf25 rfl rfl rfl) ?_
 replace hS := hS.f3
 refine WL.run hS rfl rfl rfl (ex_load_box_agg (cs := [u_17]) Tryz.isAgg25 Tryz.sizeOf25 rfl rfl rfl) ?_
 obtain ⟨mf, hV⟩ := hV
 refine WL.call rfl rfl rfl (enters0 (vs := [.agg #[u_7], .agg #[u_17]]) Tryz.call19 ⟨rfl, rfl, trivial⟩) (S_Compare mf ((h_8.mono le_23).mono le_33) (h_18.mono le_33) hS hV) ?_
 clear hV hS
 rintro _ w ⟨r_36, hV, rfl, hr_37, hS⟩
 refine ⟨_, rfl, ?_⟩
 refine WL.ma rfl rfl ?_
 refine WL.nx ?_
 refine WC.sr ?_
 refine WL.run hS rfl rfl rfl (ex_load_box_agg (cs := [u_17]) Tryz.isAgg25 Tryz.sizeOf25 rfl rfl rfl) ?_
 replace hS := hS.f3
 refine WL.run hS rfl rfl rfl (ex_load_box_agg (cs := [u_27]) Tryz.isAgg25 Tryz.sizeOf25 rfl rfl rfl) ?_
 obtain ⟨mf, hV⟩ := hV
 refine WL.call rfl rfl rfl (enters0 (vs := [.agg #[u_17], .agg #[u_27]]) Tryz.call19 ⟨rfl, rfl, trivial⟩) (S_Compare mf (h_18.mono le_33) h_28 hS hV) ?_
 clear hV hS
 rintro _ w ⟨r_39, hV, rfl, hr_40, hS⟩
 refine ⟨_, rfl, ?_⟩
 refine WL.ma rfl rfl ?_
 refine WL.nx ?_
 refine WC.sr ?_
 replace hS := hS.f3
 refine WL.run hS rfl rfl rfl (ex_load_box_agg (cs := [u_7]) Tryz.isAgg25 Tryz.sizeOf25 rfl rfl rfl) ?_
 replace hS := hS.f2
 refine WL.run hS rfl rfl rfl (ex_load_box_agg (cs := [u_27]) Tryz.isAgg25 Tryz.sizeOf25 rfl rfl rfl) ?_
 obtain ⟨mf, hV⟩ := hV
 refine WL.call rfl rfl rfl (enters0 (vs := [.agg #[u_7], .agg #[u_27]]) Tryz.call19 ⟨rfl, rfl, trivial⟩) (S_Compare mf ((h_8.mono le_23).mono le_33) h_28 hS hV) ?_
 clear hV hS
 rintro _ w ⟨r_42, hV, rfl, hr_43, hS⟩
 refine ⟨_, rfl, ?_⟩
 refine WL.ma rfl rfl ?_
 refine WL.nx ?_
 refine WC.sub (m := [(7, .bool r_4), (8, (pq b_14)), (11, (pq b_24)), (17, i6 r_36), (18, i6 r_39), (19, i6 r_42)]) ⟨rfl, rfl, rfl, rfl, rfl, rfl, trivial⟩ ?_
 replace hS := hS.drop
 refine WC.sr ?_
 replace hS := hS.f2
 refine WL.run hS rfl rfl rfl (ex_load_box_agg (cs := [u_17]) Tryz.isAgg25 Tryz.sizeOf25 rfl rfl rfl) ?_
 replace hS := hS.f2
 refine WL.run hS rfl rfl rfl (ex_load_box_agg (cs := [u_7]) Tryz.isAgg25 Tryz.sizeOf25 rfl rfl rfl) ?_
 obtain ⟨mf, hV⟩ := hV
 refine WL.call rfl rfl rfl (enters0 (vs := [.agg #[u_17], .agg #[u_7]]) Tryz.call19 ⟨rfl, rfl, trivial⟩) (S_Compare mf (h_18.mono le_33) ((h_8.mono le_23).mono le_33) hS hV) ?_
 clear hV hS
 rintro _ w ⟨r_45, hV, rfl, hr_46, hS⟩
 refine ⟨_, rfl, ?_⟩
 refine WL.ma rfl rfl ?_
 refine WL.nx ?_
 refine WC.seq ?_
 obtain ⟨J_56, hJ_57, hV⟩ := hV
 refine WC.meet (fun a w => ∃ (x_55 : Bool), J_56 x_55 ∧ St w0 H_32 ([(b_14, oc #[u_7] 25)] ++ ([(b_24, oc #[u_17] 25)] ++ L)) w ∧ Fr 102 [(8, (pq b_14)), (11, (pq b_24)), (17, i6 r_36), (18, i6 r_39), (19, i6 r_42), (69, .bool x_55)] a) ?_ ?_
 rintro a w ⟨x_55, hI, hS, ha⟩
 refine in_frame ha ?_
 clear ha hV
 have hV := hJ_57 _ hI
 clear hI hJ_57
 refine WC.cond rfl ?_ ?_
 intro hc_98
 replace hV := hV.1 hc_98
 refine WC.sr ?_
 refine WL.ma rfl rfl ?_
 refine WL.nx ?_
 replace hS := hS.drop
 replace hS := hS.drop
 refine WC.ret ?_
 refine WQ.pass nofun ?_
 exact leave1 rfl rfl (⟨false, hV, rfl, (hS.weaken ((((View.le.refl _).trans le_13).trans le_23).trans le_33))⟩)
 intro hc_98
 replace hV := hV.2 hc_98
 refine WC.skip ?_
 refine WQ.next ?_
 refine WC.seq ?_
 refine WC.seq ?_
 refine WC.via (m := [(8, (pq b_14)), (11, (pq b_24)), (17, i6 r_36), (91, .bool (decide ((((r_36 ≤ (0 : Int)) ∧ (r_39 ≤ (0 : Int))) ∧ ((0 : Int) < r_42)) ∨ ((((0 : Int) ≤ r_36) ∧ ((0 : Int) ≤ r_39)) ∧ (r_42 < (0 : Int))))))]) ?_ ?_
 refine WC.region ?_
 refine WL.mv rfl rfl ?_
 refine WL.run hS rfl rfl rfl (ex_leq rfl rfl) ?_
 refine WL.mv rfl rfl ?_
 rcases Bool.eq_false_or_eq_true (decide (r_36 ≤ (0 : Int))) with hg_72 | hg_72
 refine WL.unguard rfl rfl hg_72 ?_
 refine WL.mv rfl rfl ?_
 refine WL.unguard rfl rfl hg_72 ?_
 refine WL.run hS rfl rfl rfl (ex_leq rfl rfl) ?_
 refine WL.run hS rfl rfl rfl (ex_pick_t rfl hg_72 rfl) ?_
 refine WL.sub (m := [(8, (pq b_14)), (11, (pq b_24)), (17, i6 r_36), (18, i6 r_39), (19, i6 r_42), (70, i6 r_36), (71, .bool (decide (r_36 ≤ (0 : Int)))), (72, .bool (decide (r_36 ≤ (0 : Int)))), (73, i6 r_39), (74, .bool (decide (r_39 ≤ (0 : Int)))), (75, .bool (decide ((r_36 ≤ (0 : Int)) ∧ (r_39 ≤ (0 : Int)))))]) ⟨rfl, rfl, rfl, rfl, rfl, rfl, rfl, rfl, rfl, rfl, congrArg (fun b => some (Value.bool b)) (and_t hg_72 : decide (r_39 ≤ (0 : Int)) = decide ((r_36 ≤ (0 : Int)) ∧ (r_39 ≤ (0 : Int)))), trivial⟩ ?_
 refine WL.mv rfl rfl ?_
 rcases Bool.eq_false_or_eq_true (decide ((r_36 ≤ (0 : Int)) ∧ (r_39 ≤ (0 : Int)))) with hg_74 | hg_74
 refine WL.unguard rfl rfl hg_74 ?_
 refine WL.mv rfl rfl ?_
 refine WL.unguard rfl rfl hg_74 ?_
 refine WL.run hS rfl rfl rfl (ex_gtr rfl rfl) ?_
 refine WL.run hS rfl rfl rfl (ex_pick_t rfl hg_74 rfl) ?_
 refine WL.sub (m := [(8, (pq b_14)), (11, (pq b_24)), (17, i6 r_36), (18, i6 r_39), (19, i6 r_42), (70, i6 r_36), (71, .bool (decide (r_36 ≤ (0 : Int)))), (72, .bool (decide (r_36 ≤ (0 : Int)))), (73, i6 r_39), (74, .bool (decide (r_39 ≤ (0 : Int)))), (75, .bool (decide ((r_36 ≤ (0 : Int)) ∧ (r_39 ≤ (0 : Int))))), (76, .bool (decide ((r_36 ≤ (0 : Int)) ∧ (r_39 ≤ (0 : Int))))), (77, i6 r_42), (78, .bool (decide ((0 : Int) < r_42))), (79, .bool (decide (((r_36 ≤ (0 : Int)) ∧ (r_39 ≤ (0 : Int))) ∧ ((0 : Int) < r_42))))]) ⟨rfl, rfl, rfl, rfl, rfl, rfl, rfl, rfl, rfl, rfl, rfl, rfl, rfl, rfl, congrArg (fun b => some (Value.bool b)) (and_t hg_74 : decide ((0 : Int) < r_42) = decide (((r_36 ≤ (0 : Int)) ∧ (r_39 ≤ (0 : Int))) ∧ ((0 : Int) < r_42))), trivial⟩ ?_
 refine WL.mv rfl rfl ?_
 rcases Bool.eq_false_or_eq_true (decide (((r_36 ≤ (0 : Int)) ∧ (r_39 ≤ (0 : Int))) ∧ ((0 : Int) < r_42))) with hg_76 | hg_76
 refine WL.skip_g rfl rfl rfl hg_76 rfl rfl ?_
 refine WL.skip_g rfl rfl rfl hg_76 rfl rfl ?_
 refine WL.skip_g rfl rfl rfl hg_76 rfl rfl ?_
 refine WL.skip_u rfl rfl rfl rfl rfl ?_
 refine WL.skip_u rfl rfl rfl rfl rfl ?_
 refine WL.skip_g rfl rfl rfl hg_76 rfl rfl ?_
 refine WL.skip_g rfl rfl rfl hg_76 rfl rfl ?_
 refine WL.skip_u rfl rfl rfl rfl rfl ?_
 refine WL.skip_u rfl rfl rfl rfl rfl ?_
 refine WL.skip_g rfl rfl rfl hg_76 rfl rfl ?_
 refine WL.run hS rfl rfl rfl (ex_pick_t rfl hg_76 rfl) ?_
 refine WL.sub (m := [(8, (pq b_14)), (11, (pq b_24)), (17, i6 r_36), (18, i6 r_39), (19, i6 r_42), (70, i6 r_36), (71, .bool (decide (r_36 ≤ (0 : Int)))), (72, .bool (decide (r_36 ≤ (0 : Int)))), (73, i6 r_39), (74, .bool (decide (r_39 ≤ (0 : Int)))), (75, .bool (decide ((r_36 ≤ (0 : Int)) ∧ (r_39 ≤ (0 : Int))))), (76, .bool (decide ((r_36 ≤ (0 : Int)) ∧ (r_39 ≤ (0 : Int))))), (77, i6 r_42), (78, .bool (decide ((0 : Int) < r_42))), (79, .bool (decide (((r_36 ≤ (0 : Int)) ∧ (r_39 ≤ (0 : Int))) ∧ ((0 : Int) < r_42)))), (80, .bool (decide (((r_36 ≤ (0 : Int)) ∧ (r_39 ≤ (0 : Int))) ∧ ((0 : Int) < r_42)))), (81, undef), (82, undef), (83, undef), (84, undef), (85, undef), (86, undef), (87, undef), (88, undef), (89, undef), (90, undef), (91, .bool (decide ((((r_36 ≤ (0 : Int)) ∧ (r_39 ≤ (0 : Int))) ∧ ((0 : Int) < r_42)) ∨ ((((0 : Int) ≤ r_36) ∧ ((0 : Int) ≤ r_39)) ∧ (r_42 < (0 : Int))))))]) ⟨rfl, rfl, rfl, rfl, rfl, rfl, rfl, rfl, rfl, rfl, rfl, rfl, rfl, rfl, rfl, rfl, rfl, rfl, rfl, rfl, rfl, rfl, rfl, rfl, rfl, rfl, congrArg (fun b => some (Value.bool b)) (or_t hg_76 : true = decide ((((r_36 ≤ (0 : Int)) ∧ (r_39 ≤ (0 : Int))) ∧ ((0 : Int) < r_42)) ∨ ((((0 : Int) ≤ r_36) ∧ ((0 : Int) ≤ r_39)) ∧ (r_42 < (0 : Int))))), trivial⟩ ?_
 exact WL.nil (At.of ⟨rfl, rfl, rfl, rfl, trivial⟩)
 refine WL.unguard rfl rfl hg_76 ?_
 refine WL.mv rfl rfl ?_
 refine WL.unguard rfl rfl hg_76 ?_
 refine WL.run hS rfl rfl rfl (ex_geq rfl rfl) ?_
 refine WL.unguard rfl rfl hg_76 ?_
 refine WL.mv rfl rfl ?_
 rcases Bool.eq_false_or_eq_true (decide ((0 : Int) ≤ r_36)) with hg_78 | hg_78
 refine WL.unguard rfl rfl hg_78 ?_
 refine WL.mv rfl rfl ?_
 refine WL.unguard rfl rfl hg_78 ?_
 refine WL.run hS rfl rfl rfl (ex_geq rfl rfl) ?_
 refine WL.unguard rfl rfl hg_76 ?_
 refine WL.run hS rfl rfl rfl (ex_pick_t rfl hg_78 rfl) ?_
 refine WL.sub (m := [(8, (pq b_14)), (11, (pq b_24)), (17, i6 r_36), (18, i6 r_39), (19, i6 r_42), (70, i6 r_36), (71, .bool (decide (r_36 ≤ (0 : Int)))), (72, .bool (decide (r_36 ≤ (0 : Int)))), (73, i6 r_39), (74, .bool (decide (r_39 ≤ (0 : Int)))), (75, .bool (decide ((r_36 ≤ (0 : Int)) ∧ (r_39 ≤ (0 : Int))))), (76, .bool (decide ((r_36 ≤ (0 : Int)) ∧ (r_39 ≤ (0 : Int))))), (77, i6 r_42), (78, .bool (decide ((0 : Int) < r_42))), (79, .bool (decide (((r_36 ≤ (0 : Int)) ∧ (r_39 ≤ (0 : Int))) ∧ ((0 : Int) < r_42)))), (80, .bool (decide (((r_36 ≤ (0 : Int)) ∧ (r_39 ≤ (0 : Int))) ∧ ((0 : Int) < r_42)))), (81, i6 r_36), (82, .bool (decide ((0 : Int) ≤ r_36))), (83, .bool (decide ((0 : Int) ≤ r_36))), (84, i6 r_39), (85, .bool (decide ((0 : Int) ≤ r_39))), (86, .bool (decide (((0 : Int) ≤ r_36) ∧ ((0 : Int) ≤ r_39))))]) ⟨rfl, rfl, rfl, rfl, rfl, rfl, rfl, rfl, rfl, rfl, rfl, rfl, rfl, rfl, rfl, rfl, rfl, rfl, rfl, rfl, rfl, congrArg (fun b => some (Value.bool b)) (and_t hg_78 : decide ((0 : Int) ≤ r_39) = decide (((0 : Int) ≤ r_36) ∧ ((0 : Int) ≤ r_39))), trivial⟩ ?_
 refine WL.unguard rfl rfl hg_76 ?_
 refine WL.mv rfl rfl ?_
 rcases Bool.eq_false_or_eq_true (decide (((0 : Int) ≤ r_36) ∧ ((0 : Int) ≤ r_39))) with hg_80 | hg_80
 refine WL.unguard rfl rfl hg_80 ?_
 refine WL.mv rfl rfl ?_
 refine WL.unguard rfl rfl hg_80 ?_
 refine WL.run hS rfl rfl rfl (ex_lss rfl rfl) ?_
 refine WL.unguard rfl rfl hg_76 ?_
 refine WL.run hS rfl rfl rfl (ex_pick_t rfl hg_80 rfl) ?_
 refine WL.sub (m := [(8, (pq b_14)), (11, (pq b_24)), (17, i6 r_36), (18, i6 r_39), (19, i6 r_42), (70, i6 r_36), (71, .bool (decide (r_36 ≤ (0 : Int)))), (72, .bool (decide (r_36 ≤ (0 : Int)))), (73, i6 r_39), (74, .bool (decide (r_39 ≤ (0 : Int)))), (75, .bool (decide ((r_36 ≤ (0 : Int)) ∧ (r_39 ≤ (0 : Int))))), (76, .bool (decide ((r_36 ≤ (0 : Int)) ∧ (r_39 ≤ (0 : Int))))), (77, i6 r_42), (78, .bool (decide ((0 : Int) < r_42))), (79, .bool (decide (((r_36 ≤ (0 : Int)) ∧ (r_39 ≤ (0 : Int))) ∧ ((0 : Int) < r_42)))), (80, .bool (decide (((r_36 ≤ (0 : Int)) ∧ (r_39 ≤ (0 : Int))) ∧ ((0 : Int) < r_42)))), (81, i6 r_36), (82, .bool (decide ((0 : Int) ≤ r_36))), (83, .bool (decide ((0 : Int) ≤ r_36))), (84, i6 r_39), (85, .bool (decide ((0 : Int) ≤ r_39))), (86, .bool (decide (((0 : Int) ≤ r_36) ∧ ((0 : Int) ≤ r_39)))), (87, .bool (decide (((0 : Int) ≤ r_36) ∧ ((0 : Int) ≤ r_39)))), (88, i6 r_42), (89, .bool (decide (r_42 < (0 : Int)))), (90, .bool (decide ((((0 : Int) ≤ r_36) ∧ ((0 : Int) ≤ r_39)) ∧ (r_42 < (0 : Int)))))]) ⟨rfl, rfl, rfl, rfl, rfl, rfl, rfl, rfl, rfl, rfl, rfl, rfl, rfl, rfl, rfl, rfl, rfl, rfl, rfl, rfl, rfl, rfl, rfl, rfl, rfl, congrArg (fun b => some (Value.bool b)) (and_t hg_80 : decide (r_42 < (0 : Int)) = decide ((((0 : Int) ≤ r_36) ∧ ((0 : Int) ≤ r_39)) ∧ (r_42 < (0 : Int)))), trivial⟩ ?_
 refine WL.run hS rfl rfl rfl (ex_pick_f rfl hg_76 rfl) ?_
 refine WL.sub (m := [(8, (pq b_14)), (11, (pq b_24)), (17, i6 r_36), (18, i6 r_39), (19, i6 r_42), (70, i6 r_36), (71, .bool (decide (r_36 ≤ (0 : Int)))), (72, .bool (decide (r_36 ≤ (0 : Int)))), (73, i6 r_39), (74, .bool (decide (r_39 ≤ (0 : Int)))), (75, .bool (decide ((r_36 ≤ (0 : Int)) ∧ (r_39 ≤ (0 : Int))))), (76, .bool (decide ((r_36 ≤ (0 : Int)) ∧ (r_39 ≤ (0 : Int))))), (77, i6 r_42), (78, .bool (decide ((0 : Int) < r_42))), (79, .bool (decide (((r_36 ≤ (0 : Int)) ∧ (r_39 ≤ (0 : Int))) ∧ ((0 : Int) < r_42)))), (80, .bool (decide (((r_36 ≤ (0 : Int)) ∧ (r_39 ≤ (0 : Int))) ∧ ((0 : Int) < r_42)))), (81, i6 r_36), (82, .bool (decide ((0 : Int) ≤ r_36))), (83, .bool (decide ((0 : Int) ≤ r_36))), (84, i6 r_39), (85, .bool (decide ((0 : Int) ≤ r_39))), (86, .bool (decide (((0 : Int) ≤ r_36) ∧ ((0 : Int) ≤ r_39)))), (87, .bool (decide (((0 : Int) ≤ r_36) ∧ ((0 : Int) ≤ r_39)))), (88, i6 r_42), (89, .bool (decide (r_42 < (0 : Int)))), (90, .bool (decide ((((0 : Int) ≤ r_36) ∧ ((0 : Int) ≤ r_39)) ∧ (r_42 < (0 : Int))))), (91, .bool (decide ((((r_36 ≤ (0 : Int)) ∧ (r_39 ≤ (0 : Int))) ∧ ((0 : Int) < r_42)) ∨ ((((0 : Int) ≤ r_36) ∧ ((0 : Int) ≤ r_39)) ∧ (r_42 < (0 : Int))))))]) ⟨rfl, rfl, rfl, rfl, rfl, rfl, rfl, rfl, rfl, rfl, rfl, rfl, rfl, rfl, rfl, rfl, rfl, rfl, rfl, rfl, rfl, rfl, rfl, rfl, rfl, rfl, congrArg (fun b => some (Value.bool b)) (or_f hg_76 : decide ((((0 : Int) ≤ r_36) ∧ ((0 : Int) ≤ r_39)) ∧ (r_42 < (0 : Int))) = decide ((((r_36 ≤ (0 : Int)) ∧ (r_39 ≤ (0 : Int))) ∧ ((0 : Int) < r_42)) ∨ ((((0 : Int) ≤ r_36) ∧ ((0 : Int) ≤ r_39)) ∧ (r_42 < (0 : Int))))), trivial⟩ ?_
 exact WL.nil (At.of ⟨rfl, rfl, rfl, rfl, trivial⟩)
 refine WL.skip_g rfl rfl rfl hg_80 rfl rfl ?_
 refine WL.skip_g rfl rfl rfl hg_80 rfl rfl ?_
 refine WL.unguard rfl rfl hg_76 ?_
 refine WL.run hS rfl rfl rfl (ex_pick_f rfl hg_80 rfl) ?_
 refine WL.sub (m := [(8, (pq b_14)), (11, (pq b_24)), (17, i6 r_36), (18, i6 r_39), (19, i6 r_42), (70, i6 r_36), (71, .bool (decide (r_36 ≤ (0 : Int)))), (72, .bool (decide (r_36 ≤ (0 : Int)))), (73, i6 r_39), (74, .bool (decide (r_39 ≤ (0 : Int)))), (75, .bool (decide ((r_36 ≤ (0 : Int)) ∧ (r_39 ≤ (0 : Int))))), (76, .bool (decide ((r_36 ≤ (0 : Int)) ∧ (r_39 ≤ (0 : Int))))), (77, i6 r_42), (78, .bool (decide ((0 : Int) < r_42))), (79, .bool (decide (((r_36 ≤ (0 : Int)) ∧ (r_39 ≤ (0 : Int))) ∧ ((0 : Int) < r_42)))), (80, .bool (decide (((r_36 ≤ (0 : Int)) ∧ (r_39 ≤ (0 : Int))) ∧ ((0 : Int) < r_42)))), (81, i6 r_36), (82, .bool (decide ((0 : Int) ≤ r_36))), (83, .bool (decide ((0 : Int) ≤ r_36))), (84, i6 r_39), (85, .bool (decide ((0 : Int) ≤ r_39))), (86, .bool (decide (((0 : Int) ≤ r_36) ∧ ((0 : Int) ≤ r_39)))), (87, .bool (decide (((0 : Int) ≤ r_36) ∧ ((0 : Int) ≤ r_39)))), (88, undef), (89, undef), (90, .bool (decide ((((0 : Int) ≤ r_36) ∧ ((0 : Int) ≤ r_39)) ∧ (r_42 < (0 : Int)))))]) ⟨rfl, rfl, rfl, rfl, rfl, rfl, rfl, rfl, rfl, rfl, rfl, rfl, rfl, rfl, rfl, rfl, rfl, rfl, rfl, rfl, rfl, rfl, rfl, rfl, rfl, congrArg (fun b => some (Value.bool b)) (and_f hg_80 : false = decide ((((0 : Int) ≤ r_36) ∧ ((0 : Int) ≤ r_39)) ∧ (r_42 < (0 : Int)))), trivial⟩ ?_
 refine WL.run hS rfl rfl rfl (ex_pick_f rfl hg_76 rfl) ?_
 refine WL.sub (m := [(8, (pq b_14)), (11, (pq b_24)), (17, i6 r_36), (18, i6 r_39), (19, i6 r_42), (70, i6 r_36), (71, .bool (decide (r_36 ≤ (0 : Int)))), (72, .bool (decide (r_36 ≤ (0 : Int)))), (73, i6 r_39), (74, .bool (decide (r_39 ≤ (0 : Int)))), (75, .bool (decide ((r_36 ≤ (0 : Int)) ∧ (r_39 ≤ (0 : Int))))), (76, .bool (decide ((r_36 ≤ (0 : Int)) ∧ (r_39 ≤ (0 : Int))))), (77, i6 r_42), (78, .bool (decide ((0 : Int) < r_42))), (79, .bool (decide (((r_36 ≤ (0 : Int)) ∧ (r_39 ≤ (0 : Int))) ∧ ((0 : Int) < r_42)))), (80, .bool (decide (((r_36 ≤ (0 : Int)) ∧ (r_39 ≤ (0 : Int))) ∧ ((0 : Int) < r_42)))), (81, i6 r_36), (82, .bool (decide ((0 : Int) ≤ r_36))), (83, .bool (decide ((0 : Int) ≤ r_36))), (84, i6 r_39), (85, .bool (decide ((0 : Int) ≤ r_39))), (86, .bool (decide (((0 : Int) ≤ r_36) ∧ ((0 : Int) ≤ r_39)))), (87, .bool (decide (((0 : Int) ≤ r_36) ∧ ((0 : Int) ≤ r_39)))), (88, undef), (89, undef), (90, .bool (decide ((((0 : Int) ≤ r_36) ∧ ((0 : Int) ≤ r_39)) ∧ (r_42 < (0 : Int))))), (91, .bool (decide ((((r_36 ≤ (0 : Int)) ∧ (r_39 ≤ (0 : Int))) ∧ ((0 : Int) < r_42)) ∨ ((((0 : Int) ≤ r_36) ∧ ((0 : Int) ≤ r_39)) ∧ (r_42 < (0 : Int))))))]) ⟨rfl, rfl, rfl, rfl, rfl, rfl, rfl, rfl, rfl, rfl, rfl, rfl, rfl, rfl, rfl, rfl, rfl, rfl, rfl, rfl, rfl, rfl, rfl, rfl, rfl, rfl, congrArg (fun b => some (Value.bool b)) (or_f hg_76 : decide ((((0 : Int) ≤ r_36) ∧ ((0 : Int) ≤ r_39)) ∧ (r_42 < (0 : Int))) = decide ((((r_36 ≤ (0 : Int)) ∧ (r_39 ≤ (0 : Int))) ∧ ((0 : Int) < r_42)) ∨ ((((0 : Int) ≤ r_36) ∧ ((0 : Int) ≤ r_39)) ∧ (r_42 < (0 : Int))))), trivial⟩ ?_
 exact WL.nil (At.of ⟨rfl, rfl, rfl, rfl, trivial⟩)
 refine WL.skip_g rfl rfl rfl hg_78 rfl rfl ?_
 refine WL.skip_g rfl rfl rfl hg_78 rfl rfl ?_
 refine WL.unguard rfl rfl hg_76 ?_
 refine WL.run hS rfl rfl rfl (ex_pick_f rfl hg_78 rfl) ?_
 refine WL.sub (m := [(8, (pq b_14)), (11, (pq b_24)), (17, i6 r_36), (18, i6 r_39), (19, i6 r_42), (70, i6 r_36), (71, .bool (decide (r_36 ≤ (0 : Int)))), (72, .bool (decide (r_36 ≤ (0 : Int)))), (73, i6 r_39), (74, .bool (decide (r_39 ≤ (0 : Int)))), (75, .bool (decide ((r_36 ≤ (0 : Int)) ∧ (r_39 ≤ (0 : Int))))), (76, .bool (decide ((r_36 ≤ (0 : Int)) ∧ (r_39 ≤ (0 : Int))))), (77, i6 r_42), (78, .bool (decide ((0 : Int) < r_42))), (79, .bool (decide (((r_36 ≤ (0 : Int)) ∧ (r_39 ≤ (0 : Int))) ∧ ((0 : Int) < r_42)))), (80, .bool (decide (((r_36 ≤ (0 : Int)) ∧ (r_39 ≤ (0 : Int))) ∧ ((0 : Int) < r_42)))), (81, i6 r_36), (82, .bool (decide ((0 : Int) ≤ r_36))), (83, .bool (decide ((0 : Int) ≤ r_36))), (84, undef), (85, undef), (86, .bool (decide (((0 : Int) ≤ r_36) ∧ ((0 : Int) ≤ r_39))))]) ⟨rfl, rfl, rfl, rfl, rfl, rfl, rfl, rfl, rfl, rfl, rfl, rfl, rfl, rfl, rfl, rfl, rfl, rfl, rfl, rfl, rfl, congrArg (fun b => some (Value.bool b)) (and_f hg_78 : false = decide (((0 : Int) ≤ r_36) ∧ ((0 : Int) ≤ r_39))), trivial⟩ ?_
 refine WL.unguard rfl rfl hg_76 ?_
 refine WL.mv rfl rfl ?_
 refine WL.skip_g rfl rfl rfl (and_f hg_78).symm rfl rfl ?_
 refine WL.skip_g rfl rfl rfl (and_f hg_78).symm rfl rfl ?_
 refine WL.unguard rfl rfl hg_76 ?_
 refine WL.run hS rfl rfl rfl (ex_pick_f rfl (and_f hg_78).symm rfl) ?_
 refine WL.sub (m := [(8, (pq b_14)), (11, (pq b_24)), (17, i6 r_36), (18, i6 r_39), (19, i6 r_42), (70, i6 r_36), (71, .bool (decide (r_36 ≤ (0 : Int)))), (72, .bool (decide (r_36 ≤ (0 : Int)))), (73, i6 r_39), (74, .bool (decide (r_39 ≤ (0 : Int)))), (75, .bool (decide ((r_36 ≤ (0 : Int)) ∧ (r_39 ≤ (0 : Int))))), (76, .bool (decide ((r_36 ≤ (0 : Int)) ∧ (r_39 ≤ (0 : Int))))), (77, i6 r_42), (78, .bool (decide ((0 : Int) < r_42))), (79, .bool (decide (((r_36 ≤ (0 : Int)) ∧ (r_39 ≤ (0 : Int))) ∧ ((0 : Int) < r_42)))), (80, .bool (decide (((r_36 ≤ (0 : Int)) ∧ (r_39 ≤ (0 : Int))) ∧ ((0 : Int) < r_42)))), (81, i6 r_36), (82, .bool (decide ((0 : Int) ≤ r_36))), (83, .bool (decide ((0 : Int) ≤ r_36))), (84, undef), (85, undef), (86, .bool (decide (((0 : Int) ≤ r_36) ∧ ((0 : Int) ≤ r_39)))), (87, .bool (decide (((0 : Int) ≤ r_36) ∧ ((0 : Int) ≤ r_39)))), (88, undef), (89, undef), (90, .bool (decide ((((0 : Int) ≤ r_36) ∧ ((0 : Int) ≤ r_39)) ∧ (r_42 < (0 : Int)))))]) ⟨rfl, rfl, rfl, rfl, rfl, rfl, rfl, rfl, rfl, rfl, rfl, rfl, rfl, rfl, rfl, rfl, rfl, rfl, rfl, rfl, rfl, rfl, rfl, rfl, rfl, congrArg (fun b => some (Value.bool b)) (and_f (and_f hg_78).symm : false = decide ((((0 : Int) ≤ r_36) ∧ ((0 : Int) ≤ r_39)) ∧ (r_42 < (0 : Int)))), trivial⟩ ?_
 refine WL.run hS rfl rfl rfl (ex_pick_f rfl hg_76 rfl) ?_
 refine WL.sub (m := [(8, (pq b_14)), (11, (pq b_24)), (17, i6 r_36), (18, i6 r_39), (19, i6 r_42), (70, i6 r_36), (71, .bool (decide (r_36 ≤ (0 : Int)))), (72, .bool (decide (r_36 ≤ (0 : Int)))), (73, i6 r_39), (74, .bool (decide (r_39 ≤ (0 : Int)))), (75, .bool (decide ((r_36 ≤ (0 : Int)) ∧ (r_39 ≤ (0 : Int))))), (76, .bool (decide ((r_36 ≤ (0 : Int)) ∧ (r_39 ≤ (0 : Int))))), (77, i6 r_42), (78, .bool (decide ((0 : Int) < r_42))), (79, .bool (decide (((r_36 ≤ (0 : Int)) ∧ (r_39 ≤ (0 : Int))) ∧ ((0 : Int) < r_42)))), (80, .bool (decide (((r_36 ≤ (0 : Int)) ∧ (r_39 ≤ (0 : Int))) ∧ ((0 : Int) < r_42)))), (81, i6 r_36), (82, .bool (decide ((0 : Int) ≤ r_36))), (83, .bool (decide ((0 : Int) ≤ r_36))), (84, undef), (85, undef), (86, .bool (decide (((0 : Int) ≤ r_36) ∧ ((0 : Int) ≤ r_39)))), (87, .bool (decide (((0 : Int) ≤ r_36) ∧ ((0 : Int) ≤ r_39)))), (88, undef), (89, undef), (90, .bool (decide ((((0 : Int) ≤ r_36) ∧ ((0 : Int) ≤ r_39)) ∧ (r_42 < (0 : Int))))), (91, .bool (decide ((((r_36 ≤ (0 : Int)) ∧ (r_39 ≤ (0 : Int))) ∧ ((0 : Int) < r_42)) ∨ ((((0 : Int) ≤ r_36) ∧ ((0 : Int) ≤ r_39)) ∧ (r_42 < (0 : Int))))))]) ⟨rfl, rfl, rfl, rfl, rfl, rfl, rfl, rfl, rfl, rfl, rfl, rfl, rfl, rfl, rfl, rfl, rfl, rfl, rfl, rfl, rfl, rfl, rfl, rfl, rfl, rfl, congrArg (fun b => some (Value.bool b)) (or_f hg_76 : decide ((((0 : Int) ≤ r_36) ∧ ((0 : Int) ≤ r_39)) ∧ (r_42 < (0 : Int))) = decide ((((r_36 ≤ (0 : Int)) ∧ (r_39 ≤ (0 : Int))) ∧ ((0 : Int) < r_42)) ∨ ((((0 : Int) ≤ r_36) ∧ ((0 : Int) ≤ r_39)) ∧ (r_42 < (0 : Int))))), trivial⟩ ?_
 exact WL.nil (At.of ⟨rfl, rfl, rfl, rfl, trivial⟩)
 refine WL.skip_g rfl rfl rfl hg_74 rfl rfl ?_
 refine WL.skip_g rfl rfl rfl hg_74 rfl rfl ?_
 refine WL.run hS rfl rfl rfl (ex_pick_f rfl hg_74 rfl) ?_
 refine WL.sub (m := [(8, (pq b_14)), (11, (pq b_24)), (17, i6 r_36), (18, i6 r_39), (19, i6 r_42), (70, i6 r_36), (71, .bool (decide (r_36 ≤ (0 : Int)))), (72, .bool (decide (r_36 ≤ (0 : Int)))), (73, i6 r_39), (74, .bool (decide (r_39 ≤ (0 : Int)))), (75, .bool (decide ((r_36 ≤ (0 : Int)) ∧ (r_39 ≤ (0 : Int))))), (76, .bool (decide ((r_36 ≤ (0 : Int)) ∧ (r_39 ≤ (0 : Int))))), (77, undef), (78, undef), (79, .bool (decide (((r_36 ≤ (0 : Int)) ∧ (r_39 ≤ (0 : Int))) ∧ ((0 : Int) < r_42))))]) ⟨rfl, rfl, rfl, rfl, rfl, rfl, rfl, rfl, rfl, rfl, rfl, rfl, rfl, rfl, congrArg (fun b => some (Value.bool b)) (and_f hg_74 : false = decide (((r_36 ≤ (0 : Int)) ∧ (r_39 ≤ (0 : Int))) ∧ ((0 : Int) < r_42))), trivial⟩ ?_
 refine WL.mv rfl rfl ?_
 refine WL.unguard rfl rfl (and_f hg_74).symm ?_
 refine WL.mv rfl rfl ?_
 refine WL.unguard rfl rfl (and_f hg_74).symm ?_
 refine WL.run hS rfl rfl rfl (ex_geq rfl rfl) ?_
 refine WL.unguard rfl rfl (and_f hg_74).symm ?_
 refine WL.mv rfl rfl ?_
 rcases Bool.eq_false_or_eq_true (decide ((0 : Int) ≤ r_36)) with hg_83 | hg_83
 refine WL.unguard rfl rfl hg_83 ?_
 refine WL.mv rfl rfl ?_
 refine WL.unguard rfl rfl hg_83 ?_
 refine WL.run hS rfl rfl rfl (ex_geq rfl rfl) ?_
 refine WL.unguard rfl rfl (and_f hg_74).symm ?_
 refine WL.run hS rfl rfl rfl (ex_pick_t rfl hg_83 rfl) ?_
 refine WL.sub (m := [(8, (pq b_14)), (11, (pq b_24)), (17, i6 r_36), (18, i6 r_39), (19, i6 r_42), (70, i6 r_36), (71, .bool (decide (r_36 ≤ (0 : Int)))), (72, .bool (decide (r_36 ≤ (0 : Int)))), (73, i6 r_39), (74, .bool (decide (r_39 ≤ (0 : Int)))), (75, .bool (decide ((r_36 ≤ (0 : Int)) ∧ (r_39 ≤ (0 : Int))))), (76, .bool (decide ((r_36 ≤ (0 : Int)) ∧ (r_39 ≤ (0 : Int))))), (77, undef), (78, undef), (79, .bool (decide (((r_36 ≤ (0 : Int)) ∧ (r_39 ≤ (0 : Int))) ∧ ((0 : Int) < r_42)))), (80, .bool (decide (((r_36 ≤ (0 : Int)) ∧ (r_39 ≤ (0 : Int))) ∧ ((0 : Int) < r_42)))), (81, i6 r_36), (82, .bool (decide ((0 : Int) ≤ r_36))), (83, .bool (decide ((0 : Int) ≤ r_36))), (84, i6 r_39), (85, .bool (decide ((0 : Int) ≤ r_39))), (86, .bool (decide (((0 : Int) ≤ r_36) ∧ ((0 : Int) ≤ r_39))))]) ⟨rfl, rfl, rfl, rfl, rfl, rfl, rfl, rfl, rfl, rfl, rfl, rfl, rfl, rfl, rfl, rfl, rfl, rfl, rfl, rfl, rfl, congrArg (fun b => some (Value.bool b)) (and_t hg_83 : decide ((0 : Int) ≤ r_39) = decide (((0 : Int) ≤ r_36) ∧ ((0 : Int) ≤ r_39))), trivial⟩ ?_
 refine WL.unguard rfl rfl (and_f hg_74).symm ?_
 refine WL.mv rfl rfl ?_
 rcases Bool.eq_false_or_eq_true (decide (((0 : Int) ≤ r_36) ∧ ((0 : Int) ≤ r_39))) with hg_85 | hg_85
 refine WL.unguard rfl rfl hg_85 ?_
 refine WL.mv rfl rfl ?_
 refine WL.unguard rfl rfl hg_85 ?_
 refine WL.run hS rfl rfl rfl (ex_lss rfl rfl) ?_
 refine WL.unguard rfl rfl (and_f hg_74).symm ?_
 refine WL.run hS rfl rfl rfl (ex_pick_t rfl hg_85 rfl) ?_
 refine WL.sub (m := [(8, (pq b_14)), (11, (pq b_24)), (17, i6 r_36), (18, i6 r_39), (19, i6 r_42), (70, i6 r_36), (71, .bool (decide (r_36 ≤ (0 : Int)))), (72, .bool (decide (r_36 ≤ (0 : Int)))), (73, i6 r_39), (74, .bool (decide (r_39 ≤ (0 : Int)))), (75, .bool (decide ((r_36 ≤ (0 : Int)) ∧ (r_39 ≤ (0 : Int))))), (76, .bool (decide ((r_36 ≤ (0 : Int)) ∧ (r_39 ≤ (0 : Int))))), (77, undef), (78, undef), (79, .bool (decide (((r_36 ≤ (0 : Int)) ∧ (r_39 ≤ (0 : Int))) ∧ ((0 : Int) < r_42)))), (80, .bool (decide (((r_36 ≤ (0 : Int)) ∧ (r_39 ≤ (0 : Int))) ∧ ((0 : Int) < r_42)))), (81, i6 r_36), (82, .bool (decide ((0 : Int) ≤ r_36))), (83, .bool (decide ((0 : Int) ≤ r_36))), (84, i6 r_39), (85, .bool (decide ((0 : Int) ≤ r_39))), (86, .bool (decide (((0 : Int) ≤ r_36) ∧ ((0 : Int) ≤ r_39)))), (87, .bool (decide (((0 : Int) ≤ r_36) ∧ ((0 : Int) ≤ r_39)))), (88, i6 r_42), (89, .bool (decide (r_42 < (0 : Int)))), (90, .bool (decide ((((0 : Int) ≤ r_36) ∧ ((0 : Int) ≤ r_39)) ∧ (r_42 < (0 : Int)))))]) ⟨rfl, rfl, rfl, rfl, rfl, rfl, rfl, rfl, rfl, rfl, rfl, rfl, rfl, rfl, rfl, rfl, rfl, rfl, rfl, rfl, rfl, rfl, rfl, rfl, rfl, congrArg (fun b => some (Value.bool b)) (and_t hg_85 : decide (r_42 < (0 : Int)) = decide ((((0 : Int) ≤ r_36) ∧ ((0 : Int) ≤ r_39)) ∧ (r_42 < (0 : Int)))), trivial⟩ ?_
 refine WL.run hS rfl rfl rfl (ex_pick_f rfl (and_f hg_74).symm rfl) ?_
 refine WL.sub (m := [(8, (pq b_14)), (11, (pq b_24)), (17, i6 r_36), (18, i6 r_39), (19, i6 r_42), (70, i6 r_36), (71, .bool (decide (r_36 ≤ (0 : Int)))), (72, .bool (decide (r_36 ≤ (0 : Int)))), (73, i6 r_39), (74, .bool (decide (r_39 ≤ (0 : Int)))), (75, .bool (decide ((r_36 ≤ (0 : Int)) ∧ (r_39 ≤ (0 : Int))))), (76, .bool (decide ((r_36 ≤ (0 : Int)) ∧ (r_39 ≤ (0 : Int))))), (77, undef), (78, undef), (79, .bool (decide (((r_36 ≤ (0 : Int)) ∧ (r_39 ≤ (0 : Int))) ∧ ((0 : Int) < r_42)))), (80, .bool (decide (((r_36 ≤ (0 : Int)) ∧ (r_39 ≤ (0 : Int))) ∧ ((0 : Int) < r_42)))), (81, i6 r_36), (82, .bool (decide ((0 : Int) ≤ r_36))), (83, .bool (decide ((0 : Int) ≤ r_36))), (84, i6 r_39), (85, .bool (decide ((0 : Int) ≤ r_39))), (86, .bool (decide (((0 : Int) ≤ r_36) ∧ ((0 : Int) ≤ r_39)))), (87, .bool (decide (((0 : Int) ≤ r_36) ∧ ((0 : Int) ≤ r_39)))), (88, i6 r_42), (89, .bool (decide (r_42 < (0 : Int)))), (90, .bool (decide ((((0 : Int) ≤ r_36) ∧ ((0 : Int) ≤ r_39)) ∧ (r_42 < (0 : Int))))), (91, .bool (decide ((((r_36 ≤ (0 : Int)) ∧ (r_39 ≤ (0 : Int))) ∧ ((0 : Int) < r_42)) ∨ ((((0 : Int) ≤ r_36) ∧ ((0 : Int) ≤ r_39)) ∧ (r_42 < (0 : Int))))))]) ⟨rfl, rfl, rfl, rfl, rfl, rfl, rfl, rfl, rfl, rfl, rfl, rfl, rfl, rfl, rfl, rfl, rfl, rfl, rfl, rfl, rfl, rfl, rfl, rfl, rfl, rfl, congrArg (fun b => some (Value.bool b)) (or_f (and_f hg_74).symm : decide ((((0 : Int) ≤ r_36) ∧ ((0 : Int) ≤ r_39)) ∧ (r_42 < (0 : Int))) = decide ((((r_36 ≤ (0 : Int)) ∧ (r_39 ≤ (0 : Int))) ∧ ((0 : Int) < r_42)) ∨ ((((0 : Int) ≤ r_36) ∧ ((0 : Int) ≤ r_39)) ∧ (r_42 < (0 : Int))))), trivial⟩ ?_
 exact WL.nil (At.of ⟨rfl, rfl, rfl, rfl, trivial⟩)
 refine WL.skip_g rfl rfl rfl hg_85 rfl rfl ?_
 refine WL.skip_g rfl rfl rfl hg_85 rfl rfl ?_
 refine WL.unguard rfl rfl (and_f hg_74).symm ?_
 refine WL.run hS rfl rfl rfl (ex_pick_f rfl hg_85 rfl) ?_
 refine WL.sub (m := [(8, (pq b_14)), (11, (pq b_24)), (17, i6 r_36), (18, i6 r_39), (19, i6 r_42), (70, i6 r_36), (71, .bool (decide (r_36 ≤ (0 : Int)))), (72, .bool (decide (r_36 ≤ (0 : Int)))), (73, i6 r_39), (74, .bool (decide (r_39 ≤ (0 : Int)))), (75, .bool (decide ((r_36 ≤ (0 : Int)) ∧ (r_39 ≤ (0 : Int))))), (76, .bool (decide ((r_36 ≤ (0 : Int)) ∧ (r_39 ≤ (0 : Int))))), (77, undef), (78, undef), (79, .bool (decide (((r_36 ≤ (0 : Int)) ∧ (r_39 ≤ (0 : Int))) ∧ ((0 : Int) < r_42)))), (80, .bool (decide (((r_36 ≤ (0 : Int)) ∧ (r_39 ≤ (0 : Int))) ∧ ((0 : Int) < r_42)))), (81, i6 r_36), (82, .bool (decide ((0 : Int) ≤ r_36))), (83, .bool (decide ((0 : Int) ≤ r_36))), (84, i6 r_39), (85, .bool (decide ((0 : Int) ≤ r_39))), (86, .bool (decide (((0 : Int) ≤ r_36) ∧ ((0 : Int) ≤ r_39)))), (87, .bool (decide (((0 : Int) ≤ r_36) ∧ ((0 : Int) ≤ r_39)))), (88, undef), (89, undef), (90, .bool (decide ((((0 : Int) ≤ r_36) ∧ ((0 : Int) ≤ r_39)) ∧ (r_42 < (0 : Int)))))]) ⟨rfl, rfl, rfl, rfl, rfl, rfl, rfl, rfl, rfl, rfl, rfl, rfl, rfl, rfl, rfl, rfl, rfl, rfl, rfl, rfl, rfl, rfl, rfl, rfl, rfl, congrArg (fun b => some (Value.bool b)) (and_f hg_85 : false = decide ((((0 : Int) ≤ r_36) ∧ ((0 : Int) ≤ r_39)) ∧ (r_42 < (0 : Int)))), trivial⟩ ?_
 refine WL.run hS rfl rfl rfl (ex_pick_f rfl (and_f hg_74).symm rfl) ?_
 refine WL.sub (m := [(8, (pq b_14)), (11, (pq b_24)), (17, i6 r_36), (18, i6 r_39), (19, i6 r_42), (70, i6 r_36), (71, .bool (decide (r_36 ≤ (0 : Int)))), (72, .bool (decide (r_36 ≤ (0 : Int)))), (73, i6 r_39), (74, .bool (decide (r_39 ≤ (0 : Int)))), (75, .bool (decide ((r_36 ≤ (0 : Int)) ∧ (r_39 ≤ (0 : Int))))), (76, .bool (decide ((r_36 ≤ (0 : Int)) ∧ (r_39 ≤ (0 : Int))))), (77, undef), (78, undef), (79, .bool (decide (((r_36 ≤ (0 : Int)) ∧ (r_39 ≤ (0 : Int))) ∧ ((0 : Int) < r_42)))), (80, .bool (decide (((r_36 ≤ (0 : Int)) ∧ (r_39 ≤ (0 : Int))) ∧ ((0 : Int) < r_42)))), (81, i6 r_36), (82, .bool (decide ((0 : Int) ≤ r_36))), (83, .bool (decide ((0 : Int) ≤ r_36))), (84, i6 r_39), (85, .bool (decide ((0 : Int) ≤ r_39))), (86, .bool (decide (((0 : Int) ≤ r_36) ∧ ((0 : Int) ≤ r_39)))), (87, .bool (decide (((0 : Int) ≤ r_36) ∧ ((0 : Int) ≤ r_39)))), (88, undef), (89, undef), (90, .bool (decide ((((0 : Int) ≤ r_36) ∧ ((0 : Int) ≤ r_39)) ∧ (r_42 < (0 : Int))))), (91, .bool (decide ((((r_36 ≤ (0 : Int)) ∧ (r_39 ≤ (0 : Int))) ∧ ((0 : Int) < r_42)) ∨ ((((0 : Int) ≤ r_36) ∧ ((0 : Int) ≤ r_39)) ∧ (r_42 < (0 : Int))))))]) ⟨rfl, rfl, rfl, rfl, rfl, rfl, rfl, rfl, rfl, rfl, rfl, rfl, rfl, rfl, rfl, rfl, rfl, rfl, rfl, rfl, rfl, rfl, rfl, rfl, rfl, rfl, congrArg (fun b => some (Value.bool b)) (or_f (and_f hg_74).symm : decide ((((0 : Int) ≤ r_36) ∧ ((0 : Int) ≤ r_39)) ∧ (r_42 < (0 : Int))) = decide ((((r_36 ≤ (0 : Int)) ∧ (r_39 ≤ (0 : Int))) ∧ ((0 : Int) < r_42)) ∨ ((((0 : Int) ≤ r_36) ∧ ((0 : Int) ≤ r_39)) ∧ (r_42 < (0 : Int))))), trivial⟩ ?_
 exact WL.nil (At.of ⟨rfl, rfl, rfl, rfl, trivial⟩)
 refine WL.skip_g rfl rfl rfl hg_83 rfl rfl ?_
 refine WL.skip_g rfl rfl rfl hg_83 rfl rfl ?_
 refine WL.unguard rfl rfl (and_f hg_74).symm ?_
 refine WL.run hS rfl rfl rfl (ex_pick_f rfl hg_83 rfl) ?_
 refine WL.sub (m := [(8, (pq b_14)), (11, (pq b_24)), (17, i6 r_36), (18, i6 r_39), (19, i6 r_42), (70, i6 r_36), (71, .bool (decide (r_36 ≤ (0 : Int)))), (72, .bool (decide (r_36 ≤ (0 : Int)))), (73, i6 r_39), (74, .bool (decide (r_39 ≤ (0 : Int)))), (75, .bool (decide ((r_36 ≤ (0 : Int)) ∧ (r_39 ≤ (0 : Int))))), (76, .bool (decide ((r_36 ≤ (0 : Int)) ∧ (r_39 ≤ (0 : Int))))), (77, undef), (78, undef), (79, .bool (decide (((r_36 ≤ (0 : Int)) ∧ (r_39 ≤ (0 : Int))) ∧ ((0 : Int) < r_42)))), (80, .bool (decide (((r_36 ≤ (0 : Int)) ∧ (r_39 ≤ (0 : Int))) ∧ ((0 : Int) < r_42)))), (81, i6 r_36), (82, .bool (decide ((0 : Int) ≤ r_36))), (83, .bool (decide ((0 : Int) ≤ r_36))), (84, undef), (85, undef), (86, .bool (decide (((0 : Int) ≤ r_36) ∧ ((0 : Int) ≤ r_39))))]) ⟨rfl, rfl, rfl, rfl, rfl, rfl, rfl, rfl, rfl, rfl, rfl, rfl, rfl, rfl, rfl, rfl, rfl, rfl, rfl, rfl, rfl, congrArg (fun b => some (Value.bool b)) (and_f hg_83 : false = decide (((0 : Int) ≤ r_36) ∧ ((0 : Int) ≤ r_39))), trivial⟩ ?_
 refine WL.unguard rfl rfl (and_f hg_74).symm ?_
 refine WL.mv rfl rfl ?_
 refine WL.skip_g rfl rfl rfl (and_f hg_83).symm rfl rfl ?_
 refine WL.skip_g rfl rfl rfl (and_f hg_83).symm rfl rfl ?_
 refine WL.unguard rfl rfl (and_f hg_74).symm ?_
 refine WL.run hS rfl rfl rfl (ex_pick_f rfl (and_f hg_83).symm rfl) ?_
 refine WL.sub (m := [(8, (pq b_14)), (11, (pq b_24)), (17, i6 r_36), (18, i6 r_39), (19, i6 r_42), (70, i6 r_36), (71, .bool (decide (r_36 ≤ (0 : Int)))), (72, .bool (decide (r_36 ≤ (0 : Int)))), (73, i6 r_39), (74, .bool (decide (r_39 ≤ (0 : Int)))), (75, .bool (decide ((r_36 ≤ (0 : Int)) ∧ (r_39 ≤ (0 : Int))))), (76, .bool (decide ((r_36 ≤ (0 : Int)) ∧ (r_39 ≤ (0 : Int))))), (77, undef), (78, undef), (79, .bool (decide (((r_36 ≤ (0 : Int)) ∧ (r_39 ≤ (0 : Int))) ∧ ((0 : Int) < r_42)))), (80, .bool (decide (((r_36 ≤ (0 : Int)) ∧ (r_39 ≤ (0 : Int))) ∧ ((0 : Int) < r_42)))), (81, i6 r_36), (82, .bool (decide ((0 : Int) ≤ r_36))), (83, .bool (decide ((0 : Int) ≤ r_36))), (84, undef), (85, undef), (86, .bool (decide (((0 : Int) ≤ r_36) ∧ ((0 : Int) ≤ r_39)))), (87, .bool (decide (((0 : Int) ≤ r_36) ∧ ((0 : Int) ≤ r_39)))), (88, undef), (89, undef), (90, .bool (decide ((((0 : Int) ≤ r_36) ∧ ((0 : Int) ≤ r_39)) ∧ (r_42 < (0 : Int)))))]) ⟨rfl, rfl, rfl, rfl, rfl, rfl, rfl, rfl, rfl, rfl, rfl, rfl, rfl, rfl, rfl, rfl, rfl, rfl, rfl, rfl, rfl, rfl, rfl, rfl, rfl, congrArg (fun b => some (Value.bool b)) (and_f (and_f hg_83).symm : false = decide ((((0 : Int) ≤ r_36) ∧ ((0 : Int) ≤ r_39)) ∧ (r_42 < (0 : Int)))), trivial⟩ ?_
 refine WL.run hS rfl rfl rfl (ex_pick_f rfl (and_f hg_74).symm rfl) ?_
 refine WL.sub (m := [(8, (pq b_14)), (11, (pq b_24)), (17, i6 r_36), (18, i6 r_39), (19, i6 r_42), (70, i6 r_36), (71, .bool (decide (r_36 ≤ (0 : Int)))), (72, .bool (decide (r_36 ≤ (0 : Int)))), (73, i6 r_39), (74, .bool (decide (r_39 ≤ (0 : Int)))), (75, .bool (decide ((r_36 ≤ (0 : Int)) ∧ (r_39 ≤ (0 : Int))))), (76, .bool (decide ((r_36 ≤ (0 : Int)) ∧ (r_39 ≤ (0 : Int))))), (77, undef), (78, undef), (79, .bool (decide (((r_36 ≤ (0 : Int)) ∧ (r_39 ≤ (0 : Int))) ∧ ((0 : Int) < r_42)))), (80, .bool (decide (((r_36 ≤ (0 : Int)) ∧ (r_39 ≤ (0 : Int))) ∧ ((0 : Int) < r_42)))), (81, i6 r_36), (82, .bool (decide ((0 : Int) ≤ r_36))), (83, .bool (decide ((0 : Int) ≤ r_36))), (84, undef), (85, undef), (86, .bool (decide (((0 : Int) ≤ r_36) ∧ ((0 : Int) ≤ r_39)))), (87, .bool (decide (((0 : Int) ≤ r_36) ∧ ((0 : Int) ≤ r_39)))), (88, undef), (89, undef), (90, .bool (decide ((((0 : Int) ≤ r_36) ∧ ((0 : Int) ≤ r_39)) ∧ (r_42 < (0 : Int))))), (91, .bool (decide ((((r_36 ≤ (0 : Int)) ∧ (r_39 ≤ (0 : Int))) ∧ ((0 : Int) < r_42)) ∨ ((((0 : Int) ≤ r_36) ∧ ((0 : Int) ≤ r_39)) ∧ (r_42 < (0 : Int))))))]) ⟨rfl, rfl, rfl, rfl, rfl, rfl, rfl, rfl, rfl, rfl, rfl, rfl, rfl, rfl, rfl, rfl, rfl, rfl, rfl, rfl, rfl, rfl, rfl, rfl, rfl, rfl, congrArg (fun b => some (Value.bool b)) (or_f (and_f hg_74).symm : decide ((((0 : Int) ≤ r_36) ∧ ((0 : Int) ≤ r_39)) ∧ (r_42 < (0 : Int))) = decide ((((r_36 ≤ (0 : Int)) ∧ (r_39 ≤ (0 : Int))) ∧ ((0 : Int) < r_42)) ∨ ((((0 : Int) ≤ r_36) ∧ ((0 : Int) ≤ r_39)) ∧ (r_42 < (0 : Int))))), trivial⟩ ?_
 exact WL.nil (At.of ⟨rfl, rfl, rfl, rfl, trivial⟩)
 refine WL.skip_g rfl rfl rfl hg_72 rfl rfl ?_
 refine WL.skip_g rfl rfl rfl hg_72 rfl rfl ?_
 refine WL.run hS rfl rfl rfl (ex_pick_f rfl hg_72 rfl) ?_
 refine WL.sub (m := [(8, (pq b_14)), (11, (pq b_24)), (17, i6 r_36), (18, i6 r_39), (19, i6 r_42), (70, i6 r_36), (71, .bool (decide (r_36 ≤ (0 : Int)))), (72, .bool (decide (r_36 ≤ (0 : Int)))), (73, undef), (74, undef), (75, .bool (decide ((r_36 ≤ (0 : Int)) ∧ (r_39 ≤ (0 : Int)))))]) ⟨rfl, rfl, rfl, rfl, rfl, rfl, rfl, rfl, rfl, rfl, congrArg (fun b => some (Value.bool b)) (and_f hg_72 : false = decide ((r_36 ≤ (0 : Int)) ∧ (r_39 ≤ (0 : Int)))), trivial⟩ ?_
 refine WL.mv rfl rfl ?_
 refine WL.skip_g rfl rfl rfl (and_f hg_72).symm rfl rfl ?_
 refine WL.skip_g rfl rfl rfl (and_f hg_72).symm rfl rfl ?_
 refine WL.run hS rfl rfl rfl (ex_pick_f rfl (and_f hg_72).symm rfl) ?_
 refine WL.sub (m := [(8, (pq b_14)), (11, (pq b_24)), (17, i6 r_36), (18, i6 r_39), (19, i6 r_42), (70, i6 r_36), (71, .bool (decide (r_36 ≤ (0 : Int)))), (72, .bool (decide (r_36 ≤ (0 : Int)))), (73, undef), (74, undef), (75, .bool (decide ((r_36 ≤ (0 : Int)) ∧ (r_39 ≤ (0 : Int))))), (76, .bool (decide ((r_36 ≤ (0 : Int)) ∧ (r_39 ≤ (0 : Int))))), (77, undef), (78, undef), (79, .bool (decide (((r_36 ≤ (0 : Int)) ∧ (r_39 ≤ (0 : Int))) ∧ ((0 : Int) < r_42))))]) ⟨rfl, rfl, rfl, rfl, rfl, rfl, rfl, rfl, rfl, rfl, rfl, rfl, rfl, rfl, congrArg (fun b => some (Value.bool b)) (and_f (and_f hg_72).symm : false = decide (((r_36 ≤ (0 : Int)) ∧ (r_39 ≤ (0 : Int))) ∧ ((0 : Int) < r_42))), trivial⟩ ?_
 refine WL.mv rfl rfl ?_
 refine WL.unguard rfl rfl (and_f (and_f hg_72).symm).symm ?_
 refine WL.mv rfl rfl ?_
 refine WL.unguard rfl rfl (and_f (and_f hg_72).symm).symm ?_
 refine WL.run hS rfl rfl rfl (ex_geq rfl rfl) ?_
 refine WL.unguard rfl rfl (and_f (and_f hg_72).symm).symm ?_
 refine WL.mv rfl rfl ?_
 rcases Bool.eq_false_or_eq_true (decide ((0 : Int) ≤ r_36)) with hg_88 | hg_88
 refine WL.unguard rfl rfl hg_88 ?_
 refine WL.mv rfl rfl ?_
 refine WL.unguard rfl rfl hg_88 ?_
 refine WL.run hS rfl rfl rfl (ex_geq rfl rfl) ?_
 refine WL.unguard rfl rfl (and_f (and_f hg_72).symm).symm ?_
 refine WL.run hS rfl rfl rfl (ex_pick_t rfl hg_88 rfl) ?_
 refine WL.sub (m := [(8, (pq b_14)), (11, (pq b_24)), (17, i6 r_36), (18, i6 r_39), (19, i6 r_42), (70, i6 r_36), (71, .bool (decide (r_36 ≤ (0 : Int)))), (72, .bool (decide (r_36 ≤ (0 : Int)))), (73, undef), (74, undef), (75, .bool (decide ((r_36 ≤ (0 : Int)) ∧ (r_39 ≤ (0 : Int))))), (76, .bool (decide ((r_36 ≤ (0 : Int)) ∧ (r_39 ≤ (0 : Int))))), (77, undef), (78, undef), (79, .bool (decide (((r_36 ≤ (0 : Int)) ∧ (r_39 ≤ (0 : Int))) ∧ ((0 : Int) < r_42)))), (80, .bool (decide (((r_36 ≤ (0 : Int)) ∧ (r_39 ≤ (0 : Int))) ∧ ((0 : Int) < r_42)))), (81, i6 r_36), (82, .bool (decide ((0 : Int) ≤ r_36))), (83, .bool (decide ((0 : Int) ≤ r_36))), (84, i6 r_39), (85, .bool (decide ((0 : Int) ≤ r_39))), (86, .bool (decide (((0 : Int) ≤ r_36) ∧ ((0 : Int) ≤ r_39))))]) ⟨rfl, rfl, rfl, rfl, rfl, rfl, rfl, rfl, rfl, rfl, rfl, rfl, rfl, rfl, rfl, rfl, rfl, rfl, rfl, rfl, rfl, congrArg (fun b => some (Value.bool b)) (and_t hg_88 : decide ((0 : Int) ≤ r_39) = decide (((0 : Int) ≤ r_36) ∧ ((0 : Int) ≤ r_39))), trivial⟩ ?_
 refine WL.unguard rfl rfl (and_f (and_f hg_72).symm).symm ?_
 refine WL.mv rfl rfl ?_
 rcases Bool.eq_false_or_eq_true (decide (((0 : Int) ≤ r_36) ∧ ((0 : Int) ≤ r_39))) with hg_90 | hg_90
 refine WL.unguard rfl rfl hg_90 ?_
 refine WL.mv rfl rfl ?_
 refine WL.unguard rfl rfl hg_90 ?_
 refine WL.run hS rfl rfl rfl (ex_lss rfl rfl) ?_
 refine WL.unguard rfl rfl (and_f (and_f hg_72).symm).symm ?_
 refine WL.run hS rfl rfl rfl (ex_pick_t rfl hg_90 rfl) ?_
 refine WL.sub (m := [(8, (pq b_14)), (11, (pq b_24)), (17, i6 r_36), (18, i6 r_39), (19, i6 r_42), (70, i6 r_36), (71, .bool (decide (r_36 ≤ (0 : Int)))), (72, .bool (decide (r_36 ≤ (0 : Int)))), (73, undef), (74, undef), (75, .bool (decide ((r_36 ≤ (0 : Int)) ∧ (r_39 ≤ (0 : Int))))), (76, .bool (decide ((r_36 ≤ (0 : Int)) ∧ (r_39 ≤ (0 : Int))))), (77, undef), (78, undef), (79, .bool (decide (((r_36 ≤ (0 : Int)) ∧ (r_39 ≤ (0 : Int))) ∧ ((0 : Int) < r_42)))), (80, .bool (decide (((r_36 ≤ (0 : Int)) ∧ (r_39 ≤ (0 : Int))) ∧ ((0 : Int) < r_42)))), (81, i6 r_36), (82, .bool (decide ((0 : Int) ≤ r_36))), (83, .bool (decide ((0 : Int) ≤ r_36))), (84, i6 r_39), (85, .bool (decide ((0 : Int) ≤ r_39))), (86, .bool (decide (((0 : Int) ≤ r_36) ∧ ((0 : Int) ≤ r_39)))), (87, .bool (decide (((0 : Int) ≤ r_36) ∧ ((0 : Int) ≤ r_39)))), (88, i6 r_42), (89, .bool (decide (r_42 < (0 : Int)))), (90, .bool (decide ((((0 : Int) ≤ r_36) ∧ ((0 : Int) ≤ r_39)) ∧ (r_42 < (0 : Int)))))]) ⟨rfl, rfl, rfl, rfl, rfl, rfl, rfl, rfl, rfl, rfl, rfl, rfl, rfl, rfl, rfl, rfl, rfl, rfl, rfl, rfl, rfl, rfl, rfl, rfl, rfl, congrArg (fun b => some (Value.bool b)) (and_t hg_90 : decide (r_42 < (0 : Int)) = decide ((((0 : Int) ≤ r_36) ∧ ((0 : Int) ≤ r_39)) ∧ (r_42 < (0 : Int)))), trivial⟩ ?_
 refine WL.run hS rfl rfl rfl (ex_pick_f rfl (and_f (and_f hg_72).symm).symm rfl) ?_
 refine WL.sub (m := [(8, (pq b_14)), (11, (pq b_24)), (17, i6 r_36), (18, i6 r_39), (19, i6 r_42), (70, i6 r_36), (71, .bool (decide (r_36 ≤ (0 : Int)))), (72, .bool (decide (r_36 ≤ (0 : Int)))), (73, undef), (74, undef), (75, .bool (decide ((r_36 ≤ (0 : Int)) ∧ (r_39 ≤ (0 : Int))))), (76, .bool (decide ((r_36 ≤ (0 : Int)) ∧ (r_39 ≤ (0 : Int))))), (77, undef), (78, undef), (79, .bool (decide (((r_36 ≤ (0 : Int)) ∧ (r_39 ≤ (0 : Int))) ∧ ((0 : Int) < r_42)))), (80, .bool (decide (((r_36 ≤ (0 : Int)) ∧ (r_39 ≤ (0 : Int))) ∧ ((0 : Int) < r_42)))), (81, i6 r_36), (82, .bool (decide ((0 : Int) ≤ r_36))), (83, .bool (decide ((0 : Int) ≤ r_36))), (84, i6 r_39), (85, .bool (decide ((0 : Int) ≤ r_39))), (86, .bool (decide (((0 : Int) ≤ r_36) ∧ ((0 : Int) ≤ r_39)))), (87, .bool (decide (((0 : Int) ≤ r_36) ∧ ((0 : Int) ≤ r_39)))), (88, i6 r_42), (89, .bool (decide (r_42 < (0 : Int)))), (90, .bool (decide ((((0 : Int) ≤ r_36) ∧ ((0 : Int) ≤ r_39)) ∧ (r_42 < (0 : Int))))), (91, .bool (decide ((((r_36 ≤ (0 : Int)) ∧ (r_39 ≤ (0 : Int))) ∧ ((0 : Int) < r_42)) ∨ ((((0 : Int) ≤ r_36) ∧ ((0 : Int) ≤ r_39)) ∧ (r_42 < (0 : Int))))))]) ⟨rfl, rfl, rfl, rfl, rfl, rfl, rfl, rfl, rfl, rfl, rfl, rfl, rfl, rfl, rfl, rfl, rfl, rfl, rfl, rfl, rfl, rfl, rfl, rfl, rfl, rfl, congrArg (fun b => some (Value.bool b)) (or_f (and_f (and_f hg_72).symm).symm : decide ((((0 : Int) ≤ r_36) ∧ ((0 : Int) ≤ r_39)) ∧ (r_42 < (0 : Int))) = decide ((((r_36 ≤ (0 : Int)) ∧ (r_39 ≤ (0 : Int))) ∧ ((0 : Int) < r_42)) ∨ ((((0 : Int) ≤ r_36) ∧ ((0 : Int) ≤ r_39)) ∧ (r_42 < (0 : Int))))), trivial⟩ ?_
 exact WL.nil (At.of ⟨rfl, rfl, rfl, rfl, trivial⟩)
 refine WL.skip_g rfl rfl rfl hg_90 rfl rfl ?_
 refine WL.skip_g rfl rfl rfl hg_90 rfl rfl ?_
 refine WL.unguard rfl rfl (and_f (and_f hg_72).symm).symm ?_
 refine WL.run hS rfl rfl rfl (ex_pick_f rfl hg_90 rfl) ?_
 refine WL.sub (m := [(8, (pq b_14)), (11, (pq b_24)), (17, i6 r_36), (18, i6 r_39), (19, i6 r_42), (70, i6 r_36), (71, .bool (decide (r_36 ≤ (0 : Int)))), (72, .bool (decide (r_36 ≤ (0 : Int)))), (73, undef), (74, undef), (75, .bool (decide ((r_36 ≤ (0 : Int)) ∧ (r_39 ≤ (0 : Int))))), (76, .bool (decide ((r_36 ≤ (0 : Int)) ∧ (r_39 ≤ (0 : Int))))), (77, undef), (78, undef), (79, .bool (decide (((r_36 ≤ (0 : Int)) ∧ (r_39 ≤ (0 : Int))) ∧ ((0 : Int) < r_42)))), (80, .bool (decide (((r_36 ≤ (0 : Int)) ∧ (r_39 ≤ (0 : Int))) ∧ ((0 : Int) < r_42)))), (81, i6 r_36), (82, .bool (decide ((0 : Int) ≤ r_36))), (83, .bool (decide ((0 : Int) ≤ r_36))), (84, i6 r_39), (85, .bool (decide ((0 : Int) ≤ r_39))), (86, .bool (decide (((0 : Int) ≤ r_36) ∧ ((0 : Int) ≤ r_39)))), (87, .bool (decide (((0 : Int) ≤ r_36) ∧ ((0 : Int) ≤ r_39)))), (88, undef), (89, undef), (90, .bool (decide ((((0 : Int) ≤ r_36) ∧ ((0 : Int) ≤ r_39)) ∧ (r_42 < (0 : Int)))))]) ⟨rfl, rfl, rfl, rfl, rfl, rfl, rfl, rfl, rfl, rfl, rfl, rfl, rfl, rfl, rfl, rfl, rfl, rfl, rfl, rfl, rfl, rfl, rfl, rfl, rfl, congrArg (fun b => some (Value.bool b)) (and_f hg_90 : false = decide ((((0 : Int) ≤ r_36) ∧ ((0 : Int) ≤ r_39)) ∧ (r_42 < (0 : Int)))), trivial⟩ ?_
 refine WL.run hS rfl rfl rfl (ex_pick_f rfl (and_f (and_f hg_72).symm).symm rfl) ?_
 refine WL.sub (m := [(8, (pq b_14)), (11, (pq b_24)), (17, i6 r_36), (18, i6 r_39), (19, i6 r_42), (70, i6 r_36), (71, .bool (decide (r_36 ≤ (0 : Int)))), (72, .bool (decide (r_36 ≤ (0 : Int)))), (73, undef), (74, undef), (75, .bool (decide ((r_36 ≤ (0 : Int)) ∧ (r_39 ≤ (0 : Int))))), (76, .bool (decide ((r_36 ≤ (0 : Int)) ∧ (r_39 ≤ (0 : Int))))), (77, undef), (78, undef), (79, .bool (decide (((r_36 ≤ (0 : Int)) ∧ (r_39 ≤ (0 : Int))) ∧ ((0 : Int) < r_42)))), (80, .bool (decide (((r_36 ≤ (0 : Int)) ∧ (r_39 ≤ (0 : Int))) ∧ ((0 : Int) < r_42)))), (81, i6 r_36), (82, .bool (decide ((0 : Int) ≤ r_36))), (83, .bool (decide ((0 : Int) ≤ r_36))), (84, i6 r_39), (85, .bool (decide ((0 : Int) ≤ r_39))), (86, .bool (decide (((0 : Int) ≤ r_36) ∧ ((0 : Int) ≤ r_39)))), (87, .bool (decide (((0 : Int) ≤ r_36) ∧ ((0 : Int) ≤ r_39)))), (88, undef), (89, undef), (90, .bool (decide ((((0 : Int) ≤ r_36) ∧ ((0 : Int) ≤ r_39)) ∧ (r_42 < (0 : Int))))), (91, .bool (decide ((((r_36 ≤ (0 : Int)) ∧ (r_39 ≤ (0 : Int))) ∧ ((0 : Int) < r_42)) ∨ ((((0 : Int) ≤ r_36) ∧ ((0 : Int) ≤ r_39)) ∧ (r_42 < (0 : Int))))))]) ⟨rfl, rfl, rfl, rfl, rfl, rfl, rfl, rfl, rfl, rfl, rfl, rfl, rfl, rfl, rfl, rfl, rfl, rfl, rfl, rfl, rfl, rfl, rfl, rfl, rfl, rfl, congrArg (fun b => some (Value.bool b)) (or_f (and_f (and_f hg_72).symm).symm : decide ((((0 : Int) ≤ r_36) ∧ ((0 : Int) ≤ r_39)) ∧ (r_42 < (0 : Int))) = decide ((((r_36 ≤ (0 : Int)) ∧ (r_39 ≤ (0 : Int))) ∧ ((0 : Int) < r_42)) ∨ ((((0 : Int) ≤ r_36) ∧ ((0 : Int) ≤ r_39)) ∧ (r_42 < (0 : Int))))), trivial⟩ ?_
 exact WL.nil (At.of ⟨rfl, rfl, rfl, rfl, trivial⟩)
 refine WL.skip_g rfl rfl rfl hg_88 rfl rfl ?_
 refine WL.skip_g rfl rfl rfl hg_88 rfl rfl ?_
 refine WL.unguard rfl rfl (and_f (and_f hg_72).symm).symm ?_
 refine WL.run hS rfl rfl rfl (ex_pick_f rfl hg_88 rfl) ?_
 refine WL.sub (m := [(8, (pq b_14)), (11, (pq b_24)), (17, i6 r_36), (18, i6 r_39), (19, i6 r_42), (70, i6 r_36), (71, .bool (decide (r_36 ≤ (0 : Int)))), (72, .bool (decide (r_36 ≤ (0 : Int)))), (73, undef), (74, undef), (75, .bool (decide ((r_36 ≤ (0 : Int)) ∧ (r_39 ≤ (0 : Int))))), (76, .bool (decide ((r_36 ≤ (0 : Int)) ∧ (r_39 ≤ (0 : Int))))), (77, undef), (78, undef), (79, .bool (decide (((r_36 ≤ (0 : Int)) ∧ (r_39 ≤ (0 : Int))) ∧ ((0 : Int) < r_42)))), (80, .bool (decide (((r_36 ≤ (0 : Int)) ∧ (r_39 ≤ (0 : Int))) ∧ ((0 : Int) < r_42)))), (81, i6 r_36), (82, .bool (decide ((0 : Int) ≤ r_36))), (83, .bool (decide ((0 : Int) ≤ r_36))), (84, undef), (85, undef), (86, .bool (decide (((0 : Int) ≤ r_36) ∧ ((0 : Int) ≤ r_39))))]) ⟨rfl, rfl, rfl, rfl, rfl, rfl, rfl, rfl, rfl, rfl, rfl, rfl, rfl, rfl, rfl, rfl, rfl, rfl, rfl, rfl, rfl, congrArg (fun b => some (Value.bool b)) (and_f hg_88 : false = decide (((0 : Int) ≤ r_36) ∧ ((0 : Int) ≤ r_39))), trivial⟩ ?_
 refine WL.unguard rfl rfl (and_f (and_f hg_72).symm).symm ?_
 refine WL.mv rfl rfl ?_
 refine WL.skip_g rfl rfl rfl (and_f hg_88).symm rfl rfl ?_
 refine WL.skip_g rfl rfl rfl (and_f hg_88).symm rfl rfl ?_
 refine WL.unguard rfl rfl (and_f (and_f hg_72).symm).symm ?_
 refine WL.run hS rfl rfl rfl (ex_pick_f rfl (and_f hg_88).symm rfl) ?_
 refine WL.sub (m := [(8, (pq b_14)), (11, (pq b_24)), (17, i6 r_36), (18, i6 r_39), (19, i6 r_42), (70, i6 r_36), (71, .bool (decide (r_36 ≤ (0 : Int)))), (72, .bool (decide (r_36 ≤ (0 : Int)))), (73, undef), (74, undef), (75, .bool (decide ((r_36 ≤ (0 : Int)) ∧ (r_39 ≤ (0 : Int))))), (76, .bool (decide ((r_36 ≤ (0 : Int)) ∧ (r_39 ≤ (0 : Int))))), (77, undef), (78, undef), (79, .bool (decide (((r_36 ≤ (0 : Int)) ∧ (r_39 ≤ (0 : Int))) ∧ ((0 : Int) < r_42)))), (80, .bool (decide (((r_36 ≤ (0 : Int)) ∧ (r_39 ≤ (0 : Int))) ∧ ((0 : Int) < r_42)))), (81, i6 r_36), (82, .bool (decide ((0 : Int) ≤ r_36))), (83, .bool (decide ((0 : Int) ≤ r_36))), (84, undef), (85, undef), (86, .bool (decide (((0 : Int) ≤ r_36) ∧ ((0 : Int) ≤ r_39)))), (87, .bool (decide (((0 : Int) ≤ r_36) ∧ ((0 : Int) ≤ r_39)))), (88, undef), (89, undef), (90, .bool (decide ((((0 : Int) ≤ r_36) ∧ ((0 : Int) ≤ r_39)) ∧ (r_42 < (0 : Int)))))]) ⟨rfl, rfl, rfl, rfl, rfl, rfl, rfl, rfl, rfl, rfl, rfl, rfl, rfl, rfl, rfl, rfl, rfl, rfl, rfl, rfl, rfl, rfl, rfl, rfl, rfl, congrArg (fun b => some (Value.bool b)) (and_f (and_f hg_88).symm : false = decide ((((0 : Int) ≤ r_36) ∧ ((0 : Int) ≤ r_39)) ∧ (r_42 < (0 : Int)))), trivial⟩ ?_
 refine WL.run hS rfl rfl rfl (ex_pick_f rfl (and_f (and_f hg_72).symm).symm rfl) ?_
 refine WL.sub (m := [(8, (pq b_14)), (11, (pq b_24)), (17, i6 r_36), (18, i6 r_39), (19, i6 r_42), (70, i6 r_36), (71, .bool (decide (r_36 ≤ (0 : Int)))), (72, .bool (decide (r_36 ≤ (0 : Int)))), (73, undef), (74, undef), (75, .bool (decide ((r_36 ≤ (0 : Int)) ∧ (r_39 ≤ (0 : Int))))), (76, .bool (decide ((r_36 ≤ (0 : Int)) ∧ (r_39 ≤ (0 : Int))))), (77, undef), (78, undef), (79, .bool (decide (((r_36 ≤ (0 : Int)) ∧ (r_39 ≤ (0 : Int))) ∧ ((0 : Int) < r_42)))), (80, .bool (decide (((r_36 ≤ (0 : Int)) ∧ (r_39 ≤ (0 : Int))) ∧ ((0 : Int) < r_42)))), (81, i6 r_36), (82, .bool (decide ((0 : Int) ≤ r_36))), (83, .bool (decide ((0 : Int) ≤ r_36))), (84, undef), (85, undef), (86, .bool (decide (((0 : Int) ≤ r_36) ∧ ((0 : Int) ≤ r_39)))), (87, .bool (decide (((0 : Int) ≤ r_36) ∧ ((0 : Int) ≤ r_39)))), (88, undef), (89, undef), (90, .bool (decide ((((0 : Int) ≤ r_36) ∧ ((0 : Int) ≤ r_39)) ∧ (r_42 < (0 : Int))))), (91, .bool (decide ((((r_36 ≤ (0 : Int)) ∧ (r_39 ≤ (0 : Int))) ∧ ((0 : Int) < r_42)) ∨ ((((0 : Int) ≤ r_36) ∧ ((0 : Int) ≤ r_39)) ∧ (r_42 < (0 : Int))))))]) ⟨rfl, rfl, rfl, rfl, rfl, rfl, rfl, rfl, rfl, rfl, rfl, rfl, rfl, rfl, rfl, rfl, rfl, rfl, rfl, rfl, rfl, rfl, rfl, rfl, rfl, rfl, congrArg (fun b => some (Value.bool b)) (or_f (and_f (and_f hg_72).symm).symm : decide ((((0 : Int) ≤ r_36) ∧ ((0 : Int) ≤ r_39)) ∧ (r_42 < (0 : Int))) = decide ((((r_36 ≤ (0 : Int)) ∧ (r_39 ≤ (0 : Int))) ∧ ((0 : Int) < r_42)) ∨ ((((0 : Int) ≤ r_36) ∧ ((0 : Int) ≤ r_39)) ∧ (r_42 < (0 : Int))))), trivial⟩ ?_
 exact WL.nil (At.of ⟨rfl, rfl, rfl, rfl, trivial⟩)
 refine WQ.next ?_
 refine WC.cond rfl ?_ ?_
 intro hc_97
 replace hV := hV.1 (of_decide_eq_true hc_97)
 refine WC.sr ?_
 refine WL.ma rfl rfl ?_
 refine WL.nx ?_
 replace hS := hS.drop
 replace hS := hS.drop
 refine WC.ret ?_
 refine WQ.pass nofun ?_
 exact leave1 rfl rfl (⟨false, hV, rfl, (hS.weaken ((((View.le.refl _).trans le_13).trans le_23).trans le_33))⟩)
 intro hc_97
 replace hV := hV.2 (of_decide_eq_false hc_97)
 refine WC.skip ?_
 refine WQ.next ?_
 refine WC.sr ?_
 refine WL.run hS rfl rfl rfl (ex_load_box_agg (cs := [u_7]) Tryz.isAgg25 Tryz.sizeOf25 rfl rfl rfl) ?_
 refine WL.call rfl rfl rfl (enters0 (vs := [.agg #[u_7]]) Tryz.call11 ⟨rfl, trivial⟩) (S_Show ((h_8.mono le_23).mono le_33) (((hN.mono le_13).mono le_23).mono le_33) hS hV) ?_
 clear hV hS
 rintro _ w ⟨r_92, hV, rfl, hS⟩
 refine ⟨_, rfl, ?_⟩
 refine WL.ma rfl rfl ?_
 refine WL.nx ?_
 replace hS := hS.drop
 refine WC.sr ?_
 refine WL.run hS rfl rfl rfl (ex_load_box_agg (cs := [u_17]) Tryz.isAgg25 Tryz.sizeOf25 rfl rfl rfl) ?_
 refine WL.call rfl rfl rfl (enters0 (vs := [.agg #[u_17]]) Tryz.call11 ⟨rfl, trivial⟩) (S_Show (h_18.mono le_33) (((hN.mono le_13).mono le_23).mono le_33) hS hV) ?_
 clear hV hS
 rintro _ w ⟨r_94, hV, rfl, hS⟩
 refine ⟨_, rfl, ?_⟩
 refine WL.ma rfl rfl ?_
 refine WL.nx ?_
 replace hS := hS.drop
 refine WC.sr ?_
 refine WL.mv rfl rfl ?_
 refine WL.run hS rfl rfl rfl (ex_eql rfl rfl) ?_
 refine WL.mv rfl rfl ?_
 refine WL.mv rfl rfl ?_
 refine WL.run hS rfl rfl rfl (ex_s_eql rfl rfl) ?_
 refine WL.run hS rfl rfl rfl (ex_beql Tryz.underlying4 rfl rfl) ?_
 refine WL.ma rfl rfl ?_
 refine WL.nx ?_
 refine WC.sub (m := [(6, .bool ((decide (r_36 = (0 : Int))) == (decide (r_92 = r_94))))]) ⟨rfl, trivial⟩ ?_
 refine WC.ret ?_
 exact leave1 rfl rfl (⟨((decide (r_36 = (0 : Int))) == (decide (r_92 = r_94))), hV, rfl, (hS.weaken ((((View.le.refl _).trans le_13).trans le_23).trans le_33))⟩)
 clear hJ_57
 refine WC.region ?_
 refine WL.mv rfl rfl ?_
 refine WL.run hS rfl rfl rfl (ex_not rfl) ?_
 refine WL.mv rfl rfl ?_
 rcases Bool.eq_false_or_eq_true (!r_4) with hg_58 | hg_58
 replace hV := hV.1 hg_58
 refine WL.skip_g rfl rfl rfl hg_58 rfl rfl ?_
 refine WL.skip_g rfl rfl rfl hg_58 rfl rfl ?_
 refine WL.skip_g rfl rfl rfl hg_58 rfl rfl ?_
 refine WL.skip_g rfl rfl rfl hg_58 rfl rfl ?_
 refine WL.run hS rfl rfl rfl (ex_pick_t rfl hg_58 rfl) ?_
 refine WL.mv rfl rfl ?_
 refine WL.skip_g rfl rfl rfl rfl rfl rfl ?_
 refine WL.skip_g rfl rfl rfl rfl rfl rfl ?_
 refine WL.run hS rfl rfl rfl (ex_pick_t rfl rfl rfl) ?_
 refine WL.mv rfl rfl ?_
 refine WL.skip_g rfl rfl rfl rfl rfl rfl ?_
 refine WL.skip_g rfl rfl rfl rfl rfl rfl ?_
 refine WL.run hS rfl rfl rfl (ex_pick_t rfl rfl rfl) ?_
 refine WL.nil ?_
 replace hS := hS.f2.f2
 exact WQ.there fun a ha => ⟨true, hV, hS, ha.of_sub ⟨rfl, rfl, rfl, rfl, rfl, rfl, trivial⟩⟩
 replace hV := hV.2 hg_58
 refine WL.unguard rfl rfl hg_58 ?_
 refine WL.mv rfl rfl ?_
 refine WL.unguard rfl rfl hg_58 ?_
 refine WL.mv rfl rfl ?_
 refine WL.unguard rfl rfl hg_58 ?_
 obtain ⟨hi_59, hV⟩ := hV
 refine WL.run hS rfl rfl rfl (ex_neg rfl hi_59) ?_
 refine WL.unguard rfl rfl hg_58 ?_
 refine WL.run hS rfl rfl rfl (ex_neq rfl rfl) ?_
 refine WL.run hS rfl rfl rfl (ex_pick_f rfl hg_58 rfl) ?_
 refine WL.mv rfl rfl ?_
 rcases Bool.eq_false_or_eq_true (decide (r_36 ≠ (-r_45))) with hg_61 | hg_61
 replace hV := hV.1 (of_decide_eq_true hg_61)
 refine WL.skip_g rfl rfl rfl hg_61 rfl rfl ?_
 refine WL.skip_g rfl rfl rfl hg_61 rfl rfl ?_
 refine WL.run hS rfl rfl rfl (ex_pick_t rfl hg_61 rfl) ?_
 refine WL.mv rfl rfl ?_
 refine WL.skip_g rfl rfl rfl rfl rfl rfl ?_
 refine WL.skip_g rfl rfl rfl rfl rfl rfl ?_
 refine WL.run hS rfl rfl rfl (ex_pick_t rfl rfl rfl) ?_
 refine WL.nil ?_
 replace hS := hS.f2.f2
 exact WQ.there fun a ha => ⟨true, hV, hS, ha.of_sub ⟨rfl, rfl, rfl, rfl, rfl, rfl, trivial⟩⟩
 replace hV := hV.2 (of_decide_eq_false hg_61)
 refine WL.unguard rfl rfl hg_61 ?_
 refine WL.mv rfl rfl ?_
 refine WL.unguard rfl rfl hg_61 ?_
 refine WL.run hS rfl rfl rfl (ex_lss rfl rfl) ?_
 refine WL.run hS rfl rfl rfl (ex_pick_f rfl hg_61 rfl) ?_
 refine WL.mv rfl rfl ?_
 rcases Bool.eq_false_or_eq_true (decide (r_36 < (-1))) with hg_63 | hg_63
 replace hV := hV.1 (of_decide_eq_true hg_63)
 refine WL.skip_g rfl rfl rfl hg_63 rfl rfl ?_
 refine WL.skip_g rfl rfl rfl hg_63 rfl rfl ?_
 refine WL.run hS rfl rfl rfl (ex_pick_t rfl hg_63 rfl) ?_
 refine WL.nil ?_
 replace hS := hS.f2.f2
 exact WQ.there fun a ha => ⟨true, hV, hS, ha.of_sub ⟨rfl, rfl, rfl, rfl, rfl, rfl, trivial⟩⟩
 replace hV := hV.2 (of_decide_eq_false hg_63)
 refine WL.unguard rfl rfl hg_63 ?_
 refine WL.mv rfl rfl ?_
 refine WL.unguard rfl rfl hg_63 ?_
 refine WL.run hS rfl rfl rfl (ex_gtr rfl rfl) ?_
 refine WL.run hS rfl rfl rfl (ex_pick_f rfl hg_63 rfl) ?_
 refine WL.nil ?_
 replace hS := hS.f2.f2
 exact WQ.there fun a ha => ⟨decide ((1 : Int) < r_36), hV, hS, ha.of_sub ⟨rfl, rfl, rfl, rfl, rfl, rfl, trivial⟩⟩

theorem S_ValueBack {w0 : World} {H : View} {L : Seg} {w : World} {text_1 : Str} {Q : Bool → Prop} (hN : GlobN w0 H) (hS : St w0 H (L) w) (hV : V_ValueBack text_1 Q) :
 Calls Tryz.prog 7 #[sv text_1] w fun e w' => ∃ (r1 : Bool), Q r1 ∧ e = .returned (.bool r1) ∧ St w0 H (L) w' := by
 unfold V_ValueBack at hV
 refine enter Tryz.func7 rfl Tryz.ntmps7 rfl (lk_args_cons (d := 0) (v := sv text_1) rfl (lk_args_nil _)) ?_
 refine WC.sr ?_
 refine WL.ma rfl rfl ?_
 refine WL.nx ?_
 refine WC.sr ?_
 refine WL.call rfl rfl rfl (enters0 (vs := []) Tryz.call21 trivial) (S_lives hN hS hV) ?_
 clear hV hS
 rintro _ w ⟨r_2, hV, rfl, hS⟩
 refine ⟨_, rfl, ?_⟩
 refine WL.ma rfl rfl ?_
 refine WL.nx ?_
 refine WC.seq ?_
 refine WC.sr ?_
 refine WL.mv rfl rfl ?_
 refine WL.run hS rfl rfl rfl (ex_not rfl) ?_
 refine WL.nx ?_
 refine WC.cond rfl ?_ ?_
 intro hc_62
 replace hV := hV.1 hc_62
 refine WC.sr ?_
 refine WL.ma rfl rfl ?_
 refine WL.nx ?_
 refine WC.ret ?_
 refine WQ.pass nofun ?_
 exact leave1 rfl rfl (⟨false, hV, rfl, hS⟩)
 intro hc_62
 replace hV := hV.2 hc_62
 refine WC.skip ?_
 refine WQ.next ?_
 refine WC.sr ?_
 refine WL.mv rfl rfl ?_
 refine WL.call rfl rfl rfl (enters0 (vs := [sv text_1]) Tryz.call8 ⟨rfl, trivial⟩) (S_Read hN hS hV) ?_
 clear hV hS
 rintro _ w ⟨r_4, r_7, r_9, u_5, H_10, hV, rfl, le_11, h_6, hr_8, hS⟩
 refine ⟨_, rfl, ?_⟩
 refine WL.mv rfl rfl ?_
 refine WL.run hS rfl rfl rfl (ex_extract rfl rfl) ?_
 refine WL.run hS rfl rfl rfl (ex_extract rfl rfl) ?_
 refine WL.run hS rfl rfl rfl (ex_extract rfl rfl) ?_
 refine WL.alloc (arr := #[.nilIface]) rfl Tryz.zeroValue25 rfl hS ?_
 clear hS
 intro b_12 w hS
 refine WL.store_box (pre := []) (old := [.nilIface]) (rst := []) (cs := [u_5]) (arr' := #[u_5]) Tryz.sizeOf25 rfl rfl rfl ⟨(IsW.one h_6), trivial⟩ rfl rfl rfl rfl hS ?_
 clear hS
 intro w hS
 refine WL.ma rfl rfl ?_
 refine WL.ma rfl rfl ?_
 refine WL.nx ?_
 refine WC.sub (m := [(4, (pq b_12)), (6, (errV 57 r_9))]) ⟨rfl, rfl, trivial⟩ ?_
 refine WC.seq ?_
 refine WC.sr ?_
 refine WL.mv rfl rfl ?_
 refine WL.run hS rfl rfl rfl (ex_err_neq (T := 57) (e := r_9) Tryz.iface27 rfl rfl) ?_
 refine WL.nx ?_
 refine WC.cond rfl ?_ ?_
 intro hc_61
 replace hV := hV.1 (of_decide_eq_true hc_61)
 refine WC.sr ?_
 refine WL.ma rfl rfl ?_
 refine WL.nx ?_
 replace hS := hS.drop
 refine WC.ret ?_
 refine WQ.pass nofun ?_
 exact leave1 rfl rfl (⟨true, hV, rfl, (hS.weaken ((View.le.refl _).trans le_11))⟩)
 intro hc_61
 replace hV := hV.2 (of_decide_eq_false hc_61)
 refine WC.skip ?_
 refine WQ.next ?_
 refine WC.sr ?_
 refine WL.run hS rfl rfl rfl (ex_load_box_agg (cs := [u_5]) Tryz.isAgg25 Tryz.sizeOf25 rfl rfl rfl) ?_
 refine WL.call rfl rfl rfl (enters0 (vs := [.agg #[u_5]]) Tryz.call11 ⟨rfl, trivial⟩) (S_Show h_6 (hN.mono le_11) hS hV) ?_
 clear hV hS
 rintro _ w ⟨r_14, hV, rfl, hS⟩
 refine ⟨_, rfl, ?_⟩
 refine WL.ma rfl rfl ?_
 refine WL.nx ?_
 refine WC.seq ?_
 refine WC.sr ?_
 refine WL.mv rfl rfl ?_
 obtain ⟨hl_16, hV⟩ := hV
 refine WL.run hS rfl rfl rfl (ex_s_len Tryz.underlying9 rfl) ?_
 refine WL.run hS rfl rfl rfl (ex_gtr rfl rfl) ?_
 refine WL.nx ?_
 refine WC.cond rfl ?_ ?_
 intro hc_60
 replace hV := hV.1 (of_decide_eq_true hc_60)
 refine WC.sr ?_
 refine WL.ma rfl rfl ?_
 refine WL.nx ?_
 refine WC.sub (m := [(2, .bool true)]) ⟨rfl, trivial⟩ ?_
 replace hS := hS.drop
 refine WC.ret ?_
 refine WQ.pass nofun ?_
 exact leave1 rfl rfl (⟨true, hV, rfl, (hS.weaken ((View.le.refl _).trans le_11))⟩)
 intro hc_60
 replace hV := hV.2 (of_decide_eq_false hc_60)
 refine WC.skip ?_
 refine WQ.next ?_
 refine WC.sr ?_
 refine WL.mv rfl rfl ?_
 refine WL.call rfl rfl rfl (enters0 (vs := [sv r_14]) Tryz.call8 ⟨rfl, trivial⟩) (S_Read (hN.mono le_11) hS hV) ?_
 clear hV hS
 rintro _ w ⟨r_18, r_21, r_23, u_19, H_24, hV, rfl, le_25, h_20, hr_22, hS⟩
 refine ⟨_, rfl, ?_⟩
 refine WL.mv rfl rfl ?_
 refine WL.run hS rfl rfl rfl (ex_extract rfl rfl) ?_
 refine WL.run hS rfl rfl rfl (ex_extract rfl rfl) ?_
 refine WL.run hS rfl rfl rfl (ex_extract rfl rfl) ?_
 refine WL.alloc (arr := #[.nilIface]) rfl Tryz.zeroValue25 rfl hS ?_
 clear hS
 intro b_26 w hS
 refine WL.store_box (pre := []) (old := [.nilIface]) (rst := []) (cs := [u_19]) (arr' := #[u_19]) Tryz.sizeOf25 rfl rfl rfl ⟨(IsW.one h_20), trivial⟩ rfl rfl rfl rfl hS ?_
 clear hS
 intro w hS
 refine WL.ma rfl rfl ?_
 refine WL.ma rfl rfl ?_
 refine WL.nx ?_
 refine WC.sub (m := [(4, (pq b_12)), (7, sv r_14), (8, (pq b_26)), (10, (errV 57 r_23))]) ⟨rfl, rfl, rfl, rfl, trivial⟩ ?_
 refine WC.sr ?_
 replace hS := hS.f2
 refine WL.run hS rfl rfl rfl (ex_load_box_agg (cs := [u_5]) Tryz.isAgg25 Tryz.sizeOf25 rfl rfl rfl) ?_
 replace hS := hS.f2
 refine WL.run hS rfl rfl rfl (ex_load_box_agg (cs := [u_19]) Tryz.isAgg25 Tryz.sizeOf25 rfl rfl rfl) ?_
 obtain ⟨mf, hV⟩ := hV
 refine WL.call rfl rfl rfl (enters0 (vs := [.agg #[u_5], .agg #[u_19]]) Tryz.call19 ⟨rfl, rfl, trivial⟩) (S_Compare mf (h_6.mono le_25) h_20 hS hV) ?_
 clear hV hS
 rintro _ w ⟨r_28, hV, rfl, hr_29, hS⟩
 refine ⟨_, rfl, ?_⟩
 refine WL.ma rfl rfl ?_
 refine WL.nx ?_
 refine WC.sr ?_
 refine WL.run hS rfl rfl rfl (ex_load_box_agg (cs := [u_19]) Tryz.isAgg25 Tryz.sizeOf25 rfl rfl rfl) ?_
 refine WL.call rfl rfl rfl (enters0 (vs := [.agg #[u_19]]) Tryz.call11 ⟨rfl, trivial⟩) (S_Show h_20 ((hN.mono le_11).mono le_25) hS hV) ?_
 clear hV hS
 rintro _ w ⟨r_31, hV, rfl, hS⟩
 refine ⟨_, rfl, ?_⟩
 refine WL.ma rfl rfl ?_
 refine WL.nx ?_
 refine WC.sr ?_
 replace hS := hS.f2
 refine WL.run hS rfl rfl rfl (ex_load_box_agg (cs := [u_5]) Tryz.isAgg25 Tryz.sizeOf25 rfl rfl rfl) ?_
 refine WL.call rfl rfl rfl (enters0 (vs := [.agg #[u_5]]) Tryz.call13 ⟨rfl, trivial⟩) (S_Weight (h_6.mono le_25) hS hV) ?_
 clear hV hS
 rintro _ w ⟨r_33, hV, rfl, hr_34, hS⟩
 refine ⟨_, rfl, ?_⟩
 refine WL.ma rfl rfl ?_
 refine WL.nx ?_
 replace hS := hS.drop
 refine WC.sr ?_
 refine WL.run hS rfl rfl rfl (ex_load_box_agg (cs := [u_19]) Tryz.isAgg25 Tryz.sizeOf25 rfl rfl rfl) ?_
 refine WL.call rfl rfl rfl (enters0 (vs := [.agg #[u_19]]) Tryz.call13 ⟨rfl, trivial⟩) (S_Weight h_20 hS hV) ?_
 clear hV hS
 rintro _ w ⟨r_36, hV, rfl, hr_37, hS⟩
 refine ⟨_, rfl, ?_⟩
 refine WL.ma rfl rfl ?_
 refine WL.nx ?_
 refine WC.sub (m := [(7, sv r_14), (10, (errV 57 r_23)), (11, i6 r_28), (12, sv r_31), (13, i6 r_33), (14, i6 r_36)]) ⟨rfl, rfl, rfl, rfl, rfl, rfl, trivial⟩ ?_
 replace hS := hS.drop
 obtain ⟨J_49, hJ_50, hV⟩ := hV
 refine WC.meet (fun a w => ∃ (x_48 : Bool), J_49 x_48 ∧ St w0 H_24 (L) w ∧ Fr 70 [(2, .bool x_48)] a) ?_ ?_
 rintro a w ⟨x_48, hI, hS, ha⟩
 refine in_frame ha ?_
 clear ha hV
 have hV := hJ_50 _ hI
 clear hI hJ_50
 refine WC.ret ?_
 exact leave1 rfl rfl (⟨x_48, hV, rfl, (hS.weaken (((View.le.refl _).trans le_11).trans le_25))⟩)
 clear hJ_50
 refine WC.region ?_
 refine WL.mv rfl rfl ?_
 refine WL.run hS rfl rfl rfl (ex_err_eql (T := 57) (e := r_23) Tryz.iface27 rfl rfl) ?_
 refine WL.mv rfl rfl ?_
 rcases Bool.eq_false_or_eq_true (decide (r_23 = none)) with hg_51 | hg_51
 replace hV := hV.1 (of_decide_eq_true hg_51)
 refine WL.unguard rfl rfl hg_51 ?_
 refine WL.mv rfl rfl ?_
 refine WL.unguard rfl rfl hg_51 ?_
 refine WL.run hS rfl rfl rfl (ex_eql rfl rfl) ?_
 refine WL.run hS rfl rfl rfl (ex_pick_t rfl hg_51 rfl) ?_
 refine WL.mv rfl rfl ?_
 rcases Bool.eq_false_or_eq_true (decide (r_28 = (0 : Int))) with hg_53 | hg_53
 replace hV := hV.1 (of_decide_eq_true hg_53)
 refine WL.unguard rfl rfl hg_53 ?_
 refine WL.mv rfl rfl ?_
 refine WL.unguard rfl rfl hg_53 ?_
 refine WL.mv rfl rfl ?_
 refine WL.unguard rfl rfl hg_53 ?_
 refine WL.run hS rfl rfl rfl (ex_s_eql rfl rfl) ?_
 refine WL.run hS rfl rfl rfl (ex_pick_t rfl hg_53 rfl) ?_
 refine WL.mv rfl rfl ?_
 rcases Bool.eq_false_or_eq_true (decide (r_14 = r_31)) with hg_54 | hg_54
 replace hV := hV.1 (of_decide_eq_true hg_54)
 refine WL.unguard rfl rfl hg_54 ?_
 refine WL.mv rfl rfl ?_
 refine WL.unguard rfl rfl hg_54 ?_
 refine WL.mv rfl rfl ?_
 refine WL.unguard rfl rfl hg_54 ?_
 refine WL.run hS rfl rfl rfl (ex_eql rfl rfl) ?_
 refine WL.run hS rfl rfl rfl (ex_pick_t rfl hg_54 rfl) ?_
 refine WL.mv rfl rfl ?_
 rcases Bool.eq_false_or_eq_true (decide (r_33 = r_36)) with hg_56 | hg_56
 replace hV := hV.1 (of_decide_eq_true hg_56)
 refine WL.unguard rfl rfl hg_56 ?_
 refine WL.mv rfl rfl ?_
 refine WL.unguard rfl rfl hg_56 ?_
 refine WL.run hS rfl rfl rfl (ex_geq rfl rfl) ?_
 refine WL.run hS rfl rfl rfl (ex_pick_t rfl hg_56 rfl) ?_
 refine WL.mv rfl rfl ?_
 rcases Bool.eq_false_or_eq_true (decide ((1 : Int) ≤ r_33)) with hg_58 | hg_58
 replace hV := hV.1 (of_decide_eq_true hg_58)
 refine WL.unguard rfl rfl hg_58 ?_
 refine WL.mv rfl rfl ?_
 refine WL.unguard rfl rfl hg_58 ?_
 refine WL.run hS rfl rfl rfl (ex_leq rfl rfl) ?_
 refine WL.run hS rfl rfl rfl (ex_pick_t rfl hg_58 rfl) ?_
 refine WL.ma rfl rfl ?_
 refine WL.nil ?_
 exact WQ.there fun a ha => ⟨decide (r_33 ≤ (1024 : Int)), hV, hS, ha.of_sub ⟨rfl, trivial⟩⟩
 replace hV := hV.2 (of_decide_eq_false hg_58)
 refine WL.skip_g rfl rfl rfl hg_58 rfl rfl ?_
 refine WL.skip_g rfl rfl rfl hg_58 rfl rfl ?_
 refine WL.run hS rfl rfl rfl (ex_pick_f rfl hg_58 rfl) ?_
 refine WL.ma rfl rfl ?_
 refine WL.nil ?_
 exact WQ.there fun a ha => ⟨false, hV, hS, ha.of_sub ⟨rfl, trivial⟩⟩
 replace hV := hV.2 (of_decide_eq_false hg_56)
 refine WL.skip_g rfl rfl rfl hg_56 rfl rfl ?_
 refine WL.skip_g rfl rfl rfl hg_56 rfl rfl ?_
 refine WL.run hS rfl rfl rfl (ex_pick_f rfl hg_56 rfl) ?_
 refine WL.mv rfl rfl ?_
 refine WL.skip_g rfl rfl rfl rfl rfl rfl ?_
 refine WL.skip_g rfl rfl rfl rfl rfl rfl ?_
 refine WL.run hS rfl rfl rfl (ex_pick_f rfl rfl rfl) ?_
 refine WL.ma rfl rfl ?_
 refine WL.nil ?_
 exact WQ.there fun a ha => ⟨false, hV, hS, ha.of_sub ⟨rfl, trivial⟩⟩
 replace hV := hV.2 (of_decide_eq_false hg_54)
 refine WL.skip_g rfl rfl rfl hg_54 rfl rfl ?_
 refine WL.skip_g rfl rfl rfl hg_54 rfl rfl ?_
 refine WL.skip_g rfl rfl rfl hg_54 rfl rfl ?_
 refine WL.run hS rfl rfl rfl (ex_pick_f rfl hg_54 rfl) ?_
 refine WL.mv rfl rfl ?_
 refine WL.skip_g rfl rfl rfl rfl rfl rfl ?_
 refine WL.skip_g rfl rfl rfl rfl rfl rfl ?_
 refine WL.run hS rfl rfl rfl (ex_pick_f rfl rfl rfl) ?_
 refine WL.mv rfl rfl ?_
 refine WL.skip_g rfl rfl rfl rfl rfl rfl ?_
 refine WL.skip_g rfl rfl rfl rfl rfl rfl ?_
 refine WL.run hS rfl rfl rfl (ex_pick_f rfl rfl rfl) ?_
 refine WL.ma rfl rfl ?_
 refine WL.nil ?_
 exact WQ.there fun a ha => ⟨false, hV, hS, ha.of_sub ⟨rfl, trivial⟩⟩
 replace hV := hV.2 (of_decide_eq_false hg_53)
 refine WL.skip_g rfl rfl rfl hg_53 rfl rfl ?_
 refine WL.skip_g rfl rfl rfl hg_53 rfl rfl ?_
 refine WL.skip_g rfl rfl rfl hg_53 rfl rfl ?_
 refine WL.run hS rfl rfl rfl (ex_pick_f rfl hg_53 rfl) ?_
 refine WL.mv rfl rfl ?_
 refine WL.skip_g rfl rfl rfl rfl rfl rfl ?_
 refine WL.skip_g rfl rfl rfl rfl rfl rfl ?_
 refine WL.skip_g rfl rfl rfl rfl rfl rfl ?_
 refine WL.run hS rfl rfl rfl (ex_pick_f rfl rfl rfl) ?_
 refine WL.mv rfl rfl ?_
 refine WL.skip_g rfl rfl rfl rfl rfl rfl ?_
 refine WL.skip_g rfl rfl rfl rfl rfl rfl ?_
 refine WL.run hS rfl rfl rfl (ex_pick_f rfl rfl rfl) ?_
 refine WL.mv rfl rfl ?_
 refine WL.skip_g rfl rfl rfl rfl rfl rfl ?_
 refine WL.skip_g rfl rfl rfl rfl rfl rfl ?_
 refine WL.run hS rfl rfl rfl (ex_pick_f rfl rfl rfl) ?_
 refine WL.ma rfl rfl ?_
 refine WL.nil ?_
 exact WQ.there fun a ha => ⟨false, hV, hS, ha.of_sub ⟨rfl, trivial⟩⟩
 replace hV := hV.2 (of_decide_eq_false hg_51)
 refine WL.skip_g rfl rfl rfl hg_51 rfl rfl ?_
 refine WL.skip_g rfl rfl rfl hg_51 rfl rfl ?_
 refine WL.run hS rfl rfl rfl (ex_pick_f rfl hg_51 rfl) ?_
 refine WL.mv rfl rfl ?_
 refine WL.skip_g rfl rfl rfl rfl rfl rfl ?_
 refine WL.skip_g rfl rfl rfl rfl rfl rfl ?_
 refine WL.skip_g rfl rfl rfl rfl rfl rfl ?_
 refine WL.run hS rfl rfl rfl (ex_pick_f rfl rfl rfl) ?_
 refine WL.mv rfl rfl ?_
 refine WL.skip_g rfl rfl rfl rfl rfl rfl ?_
 refine WL.skip_g rfl rfl rfl rfl rfl rfl ?_
 refine WL.skip_g rfl rfl rfl rfl rfl rfl ?_
 refine WL.run hS rfl rfl rfl (ex_pick_f rfl rfl rfl) ?_
 refine WL.mv rfl rfl ?_
 refine WL.skip_g rfl rfl rfl rfl rfl rfl ?_
 refine WL.skip_g rfl rfl rfl rfl rfl rfl ?_
 refine WL.run hS rfl rfl rfl (ex_pick_f rfl rfl rfl) ?_
 refine WL.mv rfl rfl ?_
 refine WL.skip_g rfl rfl rfl rfl rfl rfl ?_
 refine WL.skip_g rfl rfl rfl rfl rfl rfl ?_
 refine WL.run hS rfl rfl rfl (ex_pick_f rfl rfl rfl) ?_
 refine WL.ma rfl rfl ?_
 refine WL.nil ?_
 exact WQ.there fun a ha => ⟨false, hV, hS, ha.of_sub ⟨rfl, trivial⟩⟩

end Go.Proofs.YtlhkfkecoekoeaaGreatDoor
