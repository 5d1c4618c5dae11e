/- For each function: called, it does its work where its condition is so. Printed by program. -/
import Derived.Test.YtlhkfkecoekoeaaGreatDoorFacts
import Derived.Test.YtlhkfkecoekoeaaGreatDoorConds
import Derived.Test.YtlhkfkecoekoeaaGreatDoorShv
import Derived.Test.YtlhkfkecoekoeaaGreatDoorTold
import Derived.Test.YtlhkfkecoekoeaaGreatDoorWalks2
set_option linter.unusedVariables false
set_option linter.unusedSimpArgs false
set_option maxRecDepth 100000
set_option maxHeartbeats 1000000
namespace Go.Proofs.YtlhkfkecoekoeaaGreatDoor
open Go.Vc _root_.Go.Proofs.Tryz _root_.Go.Proofs.YtlhkfkecoekoeaaGreatDoor.Tryz
theorem S_value (m0 : Nat) : ∀ {w0 : World} {H : View} {L : Seg} {w : World} {b_2 : Nat} {text_4 : Str} {xat_5 : Int} {deep_7 : Int} {heavy_9 : Bool} {E : Int → Int → Prop} {Q : Val → Int → Int → Bool → Prop} (hr_6 : I64 xat_5) (hr_8 : I64 deep_7) (hN : GlobN w0 H) (hS : St w0 H ([(b_2, oc #[sv text_4, i6 xat_5, i6 deep_7, .bool heavy_9] 62)] ++ L) w) (hV : V_value m0 text_4 xat_5 deep_7 heavy_9 E Q),
 Calls Tryz.prog 23 #[(pq b_2)] w fun e w' => (∃ (r1 : Val) (r2 : Int) (r3 : Int) (r4 : Bool) (u1 : Value) (H' : View), Q r1 r2 r3 r4 ∧ e = .returned (.agg #[u1]) ∧ View.le H H' ∧ IsW H' u1 r1 ∧ I64 r2 ∧ I64 r3 ∧ St w0 H' ([(b_2, oc #[sv text_4, i6 r2, i6 r3, .bool r4] 62)] ++ L) w') ∨ (∃ e1 a1, E e1 a1 ∧ e = .panicked (faultC e1 a1) ∧ ∃ H1, View.le H H1 ∧ St w0 H1 L w') := by
 induction m0 with
 | zero => intro w0 H L w b_2 text_4 xat_5 deep_7 heavy_9 E Q hr_6 hr_8 hN hS hV; exact hV.elim
 | succ m0 ih =>
  intro w0 H L w b_2 text_4 xat_5 deep_7 heavy_9 E Q hr_6 hr_8 hN hS hV
  unfold V_value at hV
  refine enter func23 rfl ntmps23 rfl (lk_args_cons (d := 0) (v := (pq b_2)) rfl (lk_args_nil _)) (WC.sr (WL.box (arr := #[(pq b_2)]) rfl rfl rfl hS ?_))
  clear hS
  intro b_10 w hS
  refine WL.alloc (arr := #[.nilIface]) rfl zeroValue25 rfl hS ?_
  clear hS
  intro b_12 w hS
  refine WL.nx (WC.sr ?_)
  replace hS := hS.f2
  refine R hS ?_
  replace hS := hS.f3
  refine Rc (enters0 (vs := [(pq b_2)]) call24 ⟨rfl, trivial⟩) (S_skip hr_6 hr_8 hS hV) ?_
  clear hV hS
  rintro _ w ⟨r_14, hV, rfl, hr_15, hS⟩
  refine ⟨_, rfl, ?_⟩
  refine WL.nx (WC.sr (WL.alloc (arr := #[ns]) rfl zeroValue42 rfl hS ?_))
  clear hS
  intro b_17 w hS
  refine WL.alloc (arr := #[ns]) rfl zeroValue42 rfl hS ?_
  clear hS
  intro b_20 w hS
  refine WL.nx (WC.sr (Rn hS (ex_makeFunc (vs := [(pq b_17), (pq b_10)]) ⟨rfl, rfl, trivial⟩) ?_))
  refine WL.alloc (arr := #[.nilFunc]) rfl zeroValue1 rfl hS ?_
  clear hS
  intro b_23 w hS
  refine St1 #[.func (.func 56) #[] #[(pq b_17), (pq b_10)]] sizeOf1 hS ?_
  clear hS
  intro w hS
  refine WL.nx (WC.seq (WC.seq (WC.quiet (C := St w0 H ([(b_23, Obj.cells #[.func (.func 56) #[] #[(pq b_17), (pq b_10)]] 1 (0, 0))] ++ ([(b_20, oc #[ns] 42)] ++ ([(b_17, oc #[ns] 42)] ++ ([(b_2, oc #[sv text_4, i6 r_14, i6 deep_7, .bool heavy_9] 62)] ++ ([(b_10, oc #[(pq b_2)] 60)] ++ ([(b_12, oc #[.nilIface] 25)] ++ L))))))) mixed (by kernel_rfl) (hS.drawn _) ?_)))
  clear hS w
  refine Rm ((ex_load_box isAgg60 rfl rfl).of (fun _ h => St.f5 h)) ?_
  iterate 2 refine Rq ?_
  refine Rm ((ex_load_box isAgg9 rfl rfl).of (fun _ h => St.f4 h)) ?_
  refine Rm ((ex_load_box isAgg60 rfl rfl).of (fun _ h => St.f5 h)) ?_
  iterate 2 refine Rq ?_
  refine Rm ((ex_load_box isAgg3 rfl rfl).of (fun _ h => St.f4 h)) ?_
  obtain ⟨hb_25, hV⟩ := hV
  refine Rm (ex_s_lo underlying9 rfl rfl hb_25) ?_
  refine Rq ?_
  refine Wq.nil fun w hS => ?_
  refine WQ.next (Sb [(1, (pq b_10)), (2, (pq b_12)), (3, (pq b_17)), (4, (pq b_20)), (5, (pq b_23)), (6, sv (text_4.drop r_14.toNat))] ?_)
  refine WC.block (WC.sr (R hS ?_))
  refine Rc (enters0 (vs := [sv (text_4.drop r_14.toNat), sv ([123] : Str)]) call57 ⟨rfl, rfl, trivial⟩) (S_hasPre  hS hV) ?_
  clear hV hS
  rintro _ w ⟨r_26, hV, rfl, hS⟩
  refine ⟨_, rfl, ?_⟩
  refine R hS ?_
  refine WL.nx ?_
  refine Cd ?_ ?_
  intro hc_162
  replace hV := hV.1 hc_162
  refine WC.sr ?_
  replace hS := hS.f5
  refine R hS ?_
  replace hS := hS.f2
  refine R hS ?_
  replace hS := hS.nilseg
  replace hS := hS.f3.f2.f5.f6
  refine WL.callP rfl rfl rfl (enters0 (vs := [(pq b_2), sv ([125] : Str), .func (.func 56) #[] #[(pq b_17), (pq b_10)]]) call58 ⟨rfl, rfl, rfl, trivial⟩) (S_list (@ih) hr_15 hr_8 OwnSl.nil hN hS hV) (by rintro _ w ⟨e_39, xat_40, hE_41, rfl, H_42, le_43, hS⟩; exact ⟨_, rfl, WQ.of fun a ha => And.intro ha.defers (.inr ⟨e_39, xat_40, hE_41, rfl, _, ((View.le.refl _).trans le_43), hS.drop.drop.drop⟩)⟩) ?_
  clear hV hS
  rintro _ w ⟨r_28, r_30, r_32, c_33, v_34, fp_35, H_37, hV, rfl, le_38, hr_29, hr_31, h_36, hS⟩
  refine ⟨_, rfl, ?_⟩
  refine WL.nx ?_
  replace hS := hS.f6.drop
  replace hS := hS.f5.drop
  refine WC.seq (WC.drawn (σ := [0, 1, 2, 3, 4]) (C := St w0 H_37 ([(b_2, oc #[sv text_4, i6 r_28, i6 r_30, .bool r_32] 62)] ++ ([(b_17, oc #[v_34] 42)] ++ (fp_35 ++ ([(b_10, oc #[(pq b_2)] 60)] ++ ([(b_12, oc #[.nilIface] 25)] ++ L)))))) [[], [], [1], [0, 1, 2], [0, 1, 2, 3]] [2, 3, 4] mixed (by kernel_rfl) (hS.drawn _) ?_)
  clear hS w
  refine Wd.runb (off := 0) rfl rfl rfl rfl (fun _ _ _ h => ex_load_box isAgg60 rfl h) rfl (fun _ h => St.f4 h) fun q_46 hq_45 => ?_
  refine Wd.runb (off := 0) rfl rfl rfl rfl (fun _ _ _ h => ex_load_box isAgg42 rfl h) rfl (fun _ h => St.f2 h) fun q_48 hq_47 => ?_
  refine Wd.turn rfl rfl rfl fun w hS => ?_
  replace hS := hS.f3
  refine Rc (enters0 (vs := [v_34]) call60 ⟨rfl, trivial⟩) (S_SetOf h_36 hS hV) ?_
  clear hV hS
  rintro _ w ⟨r_49, u_50, H_52, hV, rfl, le_53, h_51, hS⟩
  refine ⟨_, rfl, ?_⟩
  refine WL.nil (DQ.mk2 (C' := St w0 H_52 ([(b_2, oc #[sv text_4, i6 r_28, i6 r_30, .bool r_32] 62)] ++ ([(b_17, oc #[v_34] 42)] ++ ([(b_10, oc #[(pq b_2)] 60)] ++ ([(b_12, oc #[.nilIface] 25)] ++ L))))) hS ⟨il, .inr (hq_45 H_52 ([(b_2, oc #[sv text_4, i6 r_28, i6 r_30, .bool r_32] 62)] ++ ([(b_17, oc #[v_34] 42)] ++ ([(b_12, oc #[.nilIface] 25)] ++ L))) #[(pq b_2)] _ rfl (fun _ h => St.f3 h)), trivial⟩ ?_)
  clear hS w
  refine Wd.turn rfl rfl rfl fun w hS => ?_
  refine Rc (enters0 (vs := [(pq b_2), .agg #[u_50]]) call59 ⟨rfl, rfl, trivial⟩) (S_weighed hr_29 hr_31 h_51 hS hV) ?_
  clear hV hS
  rintro _ w ⟨r_54, r_57, u_55, H_58, hV, rfl, le_59, h_56, hS⟩
  refine ⟨_, rfl, ?_⟩
  refine WL.nil (DQ.mk2 (C' := St w0 H_58 ([(b_2, oc #[sv text_4, i6 r_28, i6 r_30, .bool r_57] 62)] ++ ([(b_17, oc #[v_34] 42)] ++ ([(b_10, oc #[(pq b_2)] 60)] ++ ([(b_12, oc #[.nilIface] 25)] ++ L))))) hS ⟨il, il, trivial⟩ ?_)
  clear hS w
  refine Wd.turn rfl rfl rfl fun w hS => ?_
  replace hS := hS.f4
  refine St1 #[u_55] sizeOf25 hS ?_ (cs := [u_55]) (hone := ⟨(IsW.one h_56), trivial⟩)
  clear hS
  intro w hS
  refine WL.nil (DQ.mk2 (C' := St w0 H_58 ([(b_12, oc #[u_55] 25)] ++ ([(b_2, oc #[sv text_4, i6 r_28, i6 r_30, .bool r_57] 62)] ++ ([(b_17, oc #[v_34] 42)] ++ ([(b_10, oc #[(pq b_2)] 60)] ++ L))))) hS ⟨il, il, trivial⟩ ?_)
  clear hS w
  refine Wd.nil fun w hS => ?_
  refine WQ.next (Sb [(2, (pq b_12))] ?_)
  replace hS := hS.f4.drop
  replace hS := hS.f3.drop
  refine WC.ret (WQ.out nofun (Wp ?_))
  have hl_60 := load_own_agg (P := Tryz.prog) (cs := [u_55]) isAgg25 sizeOf25 hS rfl
  replace hS := hS.drop
  exact leavec1 (il) rfl rfl hl_60 (.inl ⟨r_54, r_28, r_30, r_57, u_55, H_58, hV, rfl, ((((View.le.refl _).trans le_38).trans le_53).trans le_59), h_56, hr_29, hr_31, hS⟩)
  intro hc_162
  replace hV := hV.2 hc_162
  refine WC.sr (R hS ?_)
  refine Rc (enters0 (vs := [sv (text_4.drop r_14.toNat), sv ([60, 60] : Str)]) call57 ⟨rfl, rfl, trivial⟩) (S_hasPre  hS hV) ?_
  clear hV hS
  rintro _ w ⟨r_61, hV, rfl, hS⟩
  refine ⟨_, rfl, ?_⟩
  refine R hS ?_
  refine WL.nx ?_
  refine Cd ?_ ?_
  intro hc_161
  replace hV := hV.1 hc_161
  refine WC.sr ?_
  replace hS := hS.f5
  refine R hS ?_
  replace hS := hS.f2
  refine R hS ?_
  replace hS := hS.nilseg
  replace hS := hS.f3.f2.f5.f6
  refine WL.callP rfl rfl rfl (enters0 (vs := [(pq b_2), sv ([62, 62] : Str), .func (.func 56) #[] #[(pq b_17), (pq b_10)]]) call58 ⟨rfl, rfl, rfl, trivial⟩) (S_list (@ih) hr_15 hr_8 OwnSl.nil hN hS hV) (by rintro _ w ⟨e_74, xat_75, hE_76, rfl, H_77, le_78, hS⟩; exact ⟨_, rfl, WQ.of fun a ha => And.intro ha.defers (.inr ⟨e_74, xat_75, hE_76, rfl, _, ((View.le.refl _).trans le_78), hS.drop.drop.drop⟩)⟩) ?_
  clear hV hS
  rintro _ w ⟨r_63, r_65, r_67, c_68, v_69, fp_70, H_72, hV, rfl, le_73, hr_64, hr_66, h_71, hS⟩
  refine ⟨_, rfl, ?_⟩
  refine WL.nx (Sb [(1, (pq b_10)), (2, (pq b_12)), (3, (pq b_17))] ?_)
  replace hS := hS.f6.drop
  replace hS := hS.f5.drop
  refine WC.seq (WC.drawn (σ := [0, 1, 2, 3, 4]) (C := St w0 H_72 ([(b_2, oc #[sv text_4, i6 r_63, i6 r_65, .bool r_67] 62)] ++ ([(b_17, oc #[v_69] 42)] ++ (fp_70 ++ ([(b_10, oc #[(pq b_2)] 60)] ++ ([(b_12, oc #[.nilIface] 25)] ++ L)))))) [[], [], [1], [0, 1, 2], [0, 1, 2, 3]] [2, 3, 4] mixed (by kernel_rfl) (hS.drawn _) ?_)
  clear hS w
  refine Wd.runb (off := 0) rfl rfl rfl rfl (fun _ _ _ h => ex_load_box isAgg60 rfl h) rfl (fun _ h => St.f4 h) fun q_81 hq_80 => ?_
  refine Wd.runb (off := 0) rfl rfl rfl rfl (fun _ _ _ h => ex_load_box isAgg42 rfl h) rfl (fun _ h => St.f2 h) fun q_83 hq_82 => ?_
  refine Wd.turn rfl rfl rfl fun w hS => ?_
  replace hS := hS.f3
  obtain ⟨H_84, le_85, h_86, hS⟩ : ∃ K, View.le H_72 K ∧ IsSl K cV v_69 c_68 ∧ St w0 K ([(b_2, oc #[sv text_4, i6 r_63, i6 r_65, .bool r_67] 62)] ++ ([(b_17, oc #[v_69] 42)] ++ ([(b_10, oc #[(pq b_2)] 60)] ++ ([(b_12, oc #[.nilIface] 25)] ++ L)))) w := ⟨_, hS.put_le, h_71.share hS.put_le, hS.freeze⟩
  refine Rc (enters0 (vs := [v_69]) call61 ⟨rfl, trivial⟩) (S_SequenceOf h_86 hS hV) ?_
  clear hV hS
  rintro _ w ⟨r_87, u_88, H_90, hV, rfl, le_91, h_89, hS⟩
  refine ⟨_, rfl, ?_⟩
  refine WL.nil (DQ.mk2 (C' := St w0 H_90 ([(b_2, oc #[sv text_4, i6 r_63, i6 r_65, .bool r_67] 62)] ++ ([(b_17, oc #[v_69] 42)] ++ ([(b_10, oc #[(pq b_2)] 60)] ++ ([(b_12, oc #[.nilIface] 25)] ++ L))))) hS ⟨il, .inr (hq_80 H_90 ([(b_2, oc #[sv text_4, i6 r_63, i6 r_65, .bool r_67] 62)] ++ ([(b_17, oc #[v_69] 42)] ++ ([(b_12, oc #[.nilIface] 25)] ++ L))) #[(pq b_2)] _ rfl (fun _ h => St.f3 h)), trivial⟩ ?_)
  clear hS w
  refine Wd.turn rfl rfl rfl fun w hS => ?_
  refine Rc (enters0 (vs := [(pq b_2), .agg #[u_88]]) call59 ⟨rfl, rfl, trivial⟩) (S_weighed hr_64 hr_66 h_89 hS hV) ?_
  clear hV hS
  rintro _ w ⟨r_92, r_95, u_93, H_96, hV, rfl, le_97, h_94, hS⟩
  refine ⟨_, rfl, ?_⟩
  refine WL.nil (DQ.mk2 (C' := St w0 H_96 ([(b_2, oc #[sv text_4, i6 r_63, i6 r_65, .bool r_95] 62)] ++ ([(b_17, oc #[v_69] 42)] ++ ([(b_10, oc #[(pq b_2)] 60)] ++ ([(b_12, oc #[.nilIface] 25)] ++ L))))) hS ⟨il, il, trivial⟩ ?_)
  clear hS w
  refine Wd.turn rfl rfl rfl fun w hS => ?_
  replace hS := hS.f4
  refine St1 #[u_93] sizeOf25 hS ?_ (cs := [u_93]) (hone := ⟨(IsW.one h_94), trivial⟩)
  clear hS
  intro w hS
  refine WL.nil (DQ.mk2 (C' := St w0 H_96 ([(b_12, oc #[u_93] 25)] ++ ([(b_2, oc #[sv text_4, i6 r_63, i6 r_65, .bool r_95] 62)] ++ ([(b_17, oc #[v_69] 42)] ++ ([(b_10, oc #[(pq b_2)] 60)] ++ L))))) hS ⟨il, il, trivial⟩ ?_)
  clear hS w
  refine Wd.nil fun w hS => ?_
  refine WQ.next ?_
  replace hS := hS.f4.drop
  replace hS := hS.f3.drop
  refine WC.ret (WQ.out nofun (Wp ?_))
  have hl_98 := load_own_agg (P := Tryz.prog) (cs := [u_93]) isAgg25 sizeOf25 hS rfl
  replace hS := hS.drop
  exact leavec1 (il) rfl rfl hl_98 (.inl ⟨r_92, r_63, r_65, r_95, u_93, H_96, hV, rfl, (((((View.le.refl _).trans le_73).trans le_85).trans le_91).trans le_97), h_94, hr_64, hr_66, hS⟩)
  intro hc_161
  replace hV := hV.2 hc_161
  refine WC.sr (R hS ?_)
  refine Rc (enters0 (vs := [sv (text_4.drop r_14.toNat), sv ([91] : Str)]) call57 ⟨rfl, rfl, trivial⟩) (S_hasPre  hS hV) ?_
  clear hV hS
  rintro _ w ⟨r_99, hV, rfl, hS⟩
  refine ⟨_, rfl, ?_⟩
  refine R hS ?_
  refine WL.nx ?_
  refine Cd ?_ ?_
  intro hc_160
  replace hV := hV.1 hc_160
  refine WC.sr ?_
  replace hS := hS.f5
  refine R hS ?_
  refine Rn hS (ex_makeFunc (vs := [(pq b_20), (pq b_10), (pq b_23)]) ⟨rfl, rfl, rfl, trivial⟩) ?_
  replace hS := hS.nilseg
  replace hS := hS.nilseg
  replace hS := hS.f6.f5.f5.f5.f6.f7
  refine WL.callP rfl rfl rfl (enters0 (vs := [(pq b_2), .func (.func 63) #[] #[(pq b_20), (pq b_10), (pq b_23)]]) call62 ⟨rfl, rfl, trivial⟩) (S_pairs (@ih) hr_15 hr_8 OwnSl.nil OwnSl.nil hN hS hV) (by rintro _ w ⟨e_116, xat_117, hE_118, rfl, H_119, le_120, hS⟩; exact ⟨_, rfl, WQ.of fun a ha => And.intro ha.defers (.inr ⟨e_116, xat_117, hE_118, rfl, _, ((View.le.refl _).trans le_120), hS.drop⟩)⟩) ?_
  clear hV hS
  rintro _ w ⟨r_101, r_103, r_105, c_106, c_110, v_107, fp_108, v_111, fp_112, H_114, hV, rfl, le_115, hr_102, hr_104, h_109, h_113, hS⟩
  refine ⟨_, rfl, ?_⟩
  refine WL.nx (Sb [(1, (pq b_10)), (2, (pq b_12)), (3, (pq b_17)), (4, (pq b_20))] ?_)
  replace hS := hS.f5.drop
  refine WC.seq (WC.drawn (σ := [0, 1, 2, 3, 4, 5]) (C := St w0 H_114 ([(b_2, oc #[sv text_4, i6 r_101, i6 r_103, .bool r_105] 62)] ++ ([(b_20, oc #[v_107] 42)] ++ (fp_108 ++ ([(b_10, oc #[(pq b_2)] 60)] ++ ([(b_17, oc #[v_111] 42)] ++ (fp_112 ++ ([(b_12, oc #[.nilIface] 25)] ++ L)))))))) [[], [], [], [1, 2], [0, 1, 2, 3], [0, 1, 2, 3, 4]] [3, 4, 5] mixed (by kernel_rfl) (hS.drawn _) ?_)
  clear hS w
  refine Wd.runb (off := 0) rfl rfl rfl rfl (fun _ _ _ h => ex_load_box isAgg60 rfl h) rfl (fun _ h => St.f4 h) fun q_124 hq_123 => ?_
  refine Wd.runb (off := 0) rfl rfl rfl rfl (fun _ _ _ h => ex_load_box isAgg42 rfl h) rfl (fun _ h => St.f2 h) fun q_126 hq_125 => ?_
  refine Wd.runb (off := 0) rfl rfl rfl rfl (fun _ _ _ h => ex_load_box isAgg42 rfl h) rfl (fun _ h => St.f5 h) fun q_128 hq_127 => ?_
  refine Wd.turn rfl rfl rfl fun w hS => ?_
  replace hS := hS.f3
  obtain ⟨H_129, le_130, h_131, hS⟩ : ∃ K, View.le H_114 K ∧ IsSl K cV v_107 c_106 ∧ St w0 K ([(b_2, oc #[sv text_4, i6 r_101, i6 r_103, .bool r_105] 62)] ++ ([(b_20, oc #[v_107] 42)] ++ ([(b_10, oc #[(pq b_2)] 60)] ++ ([(b_17, oc #[v_111] 42)] ++ (fp_112 ++ ([(b_12, oc #[.nilIface] 25)] ++ L)))))) w := ⟨_, hS.put_le, h_109.share hS.put_le, hS.freeze⟩
  replace hS := hS.f5
  obtain ⟨H_132, le_133, h_134, hS⟩ : ∃ K, View.le H_129 K ∧ IsSl K cV v_111 c_110 ∧ St w0 K ([(b_2, oc #[sv text_4, i6 r_101, i6 r_103, .bool r_105] 62)] ++ ([(b_20, oc #[v_107] 42)] ++ ([(b_10, oc #[(pq b_2)] 60)] ++ ([(b_17, oc #[v_111] 42)] ++ ([(b_12, oc #[.nilIface] 25)] ++ L))))) w := ⟨_, hS.put_le, (h_113.mono le_130).share hS.put_le, hS.freeze⟩
  refine Rc (enters0 (vs := [v_107, v_111]) call65 ⟨rfl, rfl, trivial⟩) (S_FunctionOf (h_131.mono le_133) h_134 hS hV) ?_
  clear hV hS
  rintro _ w ⟨r_135, u_136, H_138, hV, rfl, le_139, h_137, hS⟩
  refine ⟨_, rfl, ?_⟩
  refine WL.nil (DQ.mk2 (C' := St w0 H_138 ([(b_2, oc #[sv text_4, i6 r_101, i6 r_103, .bool r_105] 62)] ++ ([(b_20, oc #[v_107] 42)] ++ ([(b_10, oc #[(pq b_2)] 60)] ++ ([(b_17, oc #[v_111] 42)] ++ ([(b_12, oc #[.nilIface] 25)] ++ L)))))) hS ⟨il, il, .inr (hq_123 H_138 ([(b_2, oc #[sv text_4, i6 r_101, i6 r_103, .bool r_105] 62)] ++ ([(b_20, oc #[v_107] 42)] ++ ([(b_17, oc #[v_111] 42)] ++ ([(b_12, oc #[.nilIface] 25)] ++ L)))) #[(pq b_2)] _ rfl (fun _ h => St.f3 h)), trivial⟩ ?_)
  clear hS w
  refine Wd.turn rfl rfl rfl fun w hS => ?_
  refine Rc (enters0 (vs := [(pq b_2), .agg #[u_136]]) call59 ⟨rfl, rfl, trivial⟩) (S_weighed hr_102 hr_104 h_137 hS hV) ?_
  clear hV hS
  rintro _ w ⟨r_140, r_143, u_141, H_144, hV, rfl, le_145, h_142, hS⟩
  refine ⟨_, rfl, ?_⟩
  refine WL.nil (DQ.mk2 (C' := St w0 H_144 ([(b_2, oc #[sv text_4, i6 r_101, i6 r_103, .bool r_143] 62)] ++ ([(b_20, oc #[v_107] 42)] ++ ([(b_10, oc #[(pq b_2)] 60)] ++ ([(b_17, oc #[v_111] 42)] ++ ([(b_12, oc #[.nilIface] 25)] ++ L)))))) hS ⟨il, il, il, trivial⟩ ?_)
  clear hS w
  refine Wd.turn rfl rfl rfl fun w hS => ?_
  replace hS := hS.f5
  refine St1 #[u_141] sizeOf25 hS ?_ (cs := [u_141]) (hone := ⟨(IsW.one h_142), trivial⟩)
  clear hS
  intro w hS
  refine WL.nil (DQ.mk2 (C' := St w0 H_144 ([(b_12, oc #[u_141] 25)] ++ ([(b_2, oc #[sv text_4, i6 r_101, i6 r_103, .bool r_143] 62)] ++ ([(b_20, oc #[v_107] 42)] ++ ([(b_10, oc #[(pq b_2)] 60)] ++ ([(b_17, oc #[v_111] 42)] ++ L)))))) hS ⟨il, il, il, trivial⟩ ?_)
  clear hS w
  refine Wd.nil fun w hS => ?_
  refine WQ.next ?_
  replace hS := hS.f4.drop
  replace hS := hS.f4.drop
  replace hS := hS.f3.drop
  refine WC.ret (WQ.out nofun (Wp ?_))
  have hl_146 := load_own_agg (P := Tryz.prog) (cs := [u_141]) isAgg25 sizeOf25 hS rfl
  replace hS := hS.drop
  exact leavec1 (il) rfl rfl hl_146 (.inl ⟨r_140, r_101, r_103, r_143, u_141, H_144, hV, rfl, ((((((View.le.refl _).trans le_115).trans le_130).trans le_133).trans le_139).trans le_145), h_142, hr_102, hr_104, hS⟩)
  intro hc_160
  replace hV := hV.2 hc_160
  refine WC.skip (WQ.out nofun (WQ.next (Sb [(1, (pq b_10)), (2, (pq b_12))] ?_)))
  replace hS := hS.f3.drop
  replace hS := hS.f2.drop
  replace hS := hS.drop
  refine WC.sr ?_
  replace hS := hS.f2
  refine R hS ?_
  replace hS := hS.f2
  refine WL.callP rfl rfl rfl (enters0 (vs := [(pq b_2)]) call66 ⟨rfl, trivial⟩) (S_single hr_15 hr_8 hN hS hV) (by rintro _ w ⟨e_154, xat_155, hE_156, rfl, H_157, le_158, hS⟩; exact ⟨_, rfl, WQ.of fun a ha => And.intro ha.defers (.inr ⟨e_154, xat_155, hE_156, rfl, _, ((View.le.refl _).trans le_158), hS.drop.drop⟩)⟩) ?_
  clear hV hS
  rintro _ w ⟨r_147, r_150, u_148, H_152, hV, rfl, le_153, h_149, hr_151, hS⟩
  refine ⟨_, rfl, ?_⟩
  replace hS := hS.f3
  refine St1 #[u_148] sizeOf25 hS ?_ (cs := [u_148]) (hone := ⟨(IsW.one h_149), trivial⟩)
  clear hS
  intro w hS
  refine WL.nx ?_
  replace hS := hS.f3.drop
  refine WC.ret ?_
  have hl_159 := load_own_agg (P := Tryz.prog) (cs := [u_148]) isAgg25 sizeOf25 hS rfl
  replace hS := hS.drop
  exact leavec1 (il) rfl rfl hl_159 (.inl ⟨r_147, r_150, deep_7, heavy_9, u_148, H_152, hV, rfl, ((View.le.refl _).trans le_153), h_149, hr_151, hr_8, hS⟩)
theorem S_rtexts {w0 : World} {H : View} {L : Seg} {w : World} {a_1 : Str} {b_2 : Str} {Q : Int → Prop}  (hS : St w0 H (L) w) (hV : V_rtexts a_1 b_2 Q) :
 Calls Tryz.prog 54 #[sv a_1, sv b_2] w fun e w' => ∃ (r1 : Int), Q r1 ∧ e = .returned (i6 r1) ∧ I64 r1 ∧ St w0 H (L) w' := by
 unfold V_rtexts at hV
 refine enter func54 rfl ntmps54 rfl (lk_args_cons (d := 0) (v := sv a_1) rfl (lk_args_cons (d := 1) (v := sv b_2) rfl (lk_args_nil _))) (WC.sr (R hS ?_))
 refine WL.nx (WC.seq (WC.sr ?_))
 iterate 3 refine R hS ?_
 refine WL.nx ?_
 refine Cd ?_ ?_
 intro hc_4
 replace hV := hV.1 hc_4
 refine WC.sr (R hS ?_)
 refine WL.nx (WC.ret (Wp ?_))
 exact leave1 rfl rfl (⟨(-1), hV, rfl, (show I64 ((-1) : Int) by unfold I64; omega), hS⟩)
 intro hc_4
 replace hV := hV.2 hc_4
 refine WC.skip (WQ.next (WC.seq (WC.sr ?_)))
 iterate 3 refine R hS ?_
 refine WL.nx ?_
 refine Cd ?_ ?_
 intro hc_3
 replace hV := hV.1 hc_3
 refine WC.sr (R hS ?_)
 refine WL.nx (WC.ret (Wp ?_))
 exact leave1 rfl rfl (⟨(1 : Int), hV, rfl, (show I64 (1 : Int) by unfold I64; omega), hS⟩)
 intro hc_3
 replace hV := hV.2 hc_3
 refine WC.skip (WQ.next (WC.sr (R hS ?_)))
 refine WL.nx (WC.ret ?_)
 exact leave1 rfl rfl (⟨(0 : Int), hV, rfl, i0, hS⟩)
def H_rCompare (G : RV → RV → (Int → Prop) → Prop) : Prop := ∀ {w0 : World} {H : View} {L : Seg} {w : World} {a_1 : RV} {v_2 : Value} {v_3 : Value} {b_8 : RV} {v_9 : Value} {v_10 : Value} {Q : Int → Prop} (hr_4 : I64 a_1.k) (hr_5 : I64 a_1.i) (h_6 : IsSl H cR v_2 a_1.ks) (h_7 : IsSl H cR v_3 a_1.vs) (hr_11 : I64 b_8.k) (hr_12 : I64 b_8.i) (h_13 : IsSl H cR v_9 b_8.ks) (h_14 : IsSl H cR v_10 b_8.vs) (hS : St w0 H (L) w) (hV : G a_1 b_8 Q), Calls Tryz.prog 20 #[.agg #[i6 a_1.k, i6 a_1.i, sv a_1.t, v_2, v_3], .agg #[i6 b_8.k, i6 b_8.i, sv b_8.t, v_9, v_10]] w fun e w' => ∃ (r1 : Int), Q r1 ∧ e = .returned (i6 r1) ∧ I64 r1 ∧ St w0 H (L) w'
theorem S_rlists {G : RV → RV → (Int → Prop) → Prop} (hG : H_rCompare G) {w0 : World} {H : View} {L : Seg} {w : World} {v_2 : Value} {a_1 : List RV} {v_5 : Value} {b_4 : List RV} {Q : Int → Prop} (h_3 : IsSl H cR v_2 a_1) (h_6 : IsSl H cR v_5 b_4) (hS : St w0 H (L) w) (hV : V_rlists G a_1 b_4 Q) :
 Calls Tryz.prog 55 #[v_2, v_5] w fun e w' => ∃ (r1 : Int), Q r1 ∧ e = .returned (i6 r1) ∧ I64 r1 ∧ St w0 H (L) w' := by
 unfold V_rlists at hV
 refine enter func55 rfl ntmps55 rfl (lk_args_cons (d := 0) (v := v_2) rfl (lk_args_cons (d := 1) (v := v_5) rfl (lk_args_nil _))) (WC.sr (R hS ?_))
 refine WL.nx (WC.seq (WC.sr (R hS ?_)))
 have hl_7 : Len a_1 := h_3.bound
 replace hV := hV hl_7
 refine Rn hS (ex_len_sl underlying30 rfl h_3) ?_
 refine R hS ?_
 have hl_8 : Len b_4 := h_6.bound
 replace hV := hV hl_8
 refine Rn hS (ex_len_sl underlying30 rfl h_6) ?_
 refine R hS ?_
 refine WL.nx ?_
 refine Cd ?_ ?_
 intro hc_164
 replace hV := hV.1 (od hc_164)
 refine WC.sr (R hS ?_)
 refine WL.nx (WC.ret (Wp ?_))
 exact leave1 rfl rfl (⟨(-1), hV, rfl, (show I64 ((-1) : Int) by unfold I64; omega), hS⟩)
 intro hc_164
 replace hV := hV.2 (ov hc_164)
 refine WC.skip (WQ.next (WC.seq (WC.sr (R hS ?_))))
 have hl_10 : Len a_1 := h_3.bound
 replace hV := hV hl_10
 refine Rn hS (ex_len_sl underlying30 rfl h_3) ?_
 refine R hS ?_
 have hl_11 : Len b_4 := h_6.bound
 replace hV := hV hl_11
 refine Rn hS (ex_len_sl underlying30 rfl h_6) ?_
 refine R hS ?_
 refine WL.nx (Sb [(0, v_2), (1, v_5), (16, .bool (decide ((b_4.length : Int) < (a_1.length : Int))))] ?_)
 refine Cd ?_ ?_
 intro hc_163
 replace hV := hV.1 (od hc_163)
 refine WC.sr (R hS ?_)
 refine WL.nx (WC.ret (Wp ?_))
 exact leave1 rfl rfl (⟨(1 : Int), hV, rfl, (show I64 (1 : Int) by unfold I64; omega), hS⟩)
 intro hc_163
 replace hV := hV.2 (ov hc_163)
 refine WC.skip (WQ.next (WC.seq (WC.sr (R hS ?_))))
 refine WL.nx (WC.block ?_)
 obtain ⟨I_111, mu_112, hI_162, hV⟩ := hV
 refine WC.loop (σ := Int) (fun s a w => ∃ (i_61 : Int), s = i_61 ∧ I_111 i_61 ∧ I64 i_61 ∧ St w0 H (L) w ∧ Fr 35 [(0, v_2), (1, v_5), (5, i6 i_61)] a) mu_112 (0 : Int) ?_ ?_
 exact fun a ha => ⟨(0 : Int), rfl, hI_162, i0, hS, ha.os⟩
 clear hS hI_162
 rintro i_61 a w ⟨_, rfl, hI, hr_62, hS, ha⟩
 refine in_frame ha ?_
 clear ha
 replace hV := hV _ hI
 clear hI
 refine WC.seq (WC.sr ?_)
 iterate 2 refine R hS ?_
 have hl_114 : Len a_1 := h_3.bound
 replace hV := hV hl_114
 refine Rn hS (ex_len_sl underlying30 rfl h_3) ?_
 refine R hS ?_
 refine WL.nx ?_
 refine Cd ?_ ?_
 intro hc_161
 replace hV := hV.1 (od hc_161)
 refine WC.skip (WQ.next (WC.seq (WC.block (WC.seq (WC.drawn (σ := [0, 1, 2, 3, 4, 5, 6, 7, 8, 9]) (C := St w0 H (L)) [[], [], [0, 1], [0, 1, 2], [], [], [4, 5], [4, 5, 6], [0, 1, 2, 3, 4, 5, 6, 7], [0, 1, 2, 3, 4, 5, 6, 7, 8]] [8] mixed (by kernel_rfl) (hS.drawn _) ?_)))))
 clear hS w
 refine Dm fun q_117 hq_116 => ?_
 refine Dm fun q_119 hq_118 => ?_
 obtain ⟨hin_122, hV⟩ := hV
 refine Wd.runx rfl rfl rfl rfl (exAll (ex_index underlying30 sizeOf32 rfl rfl h_3 hin_122)) ?_
 intro p_123 hp_124
 intro q_121 hq_120
 refine Wd.runs (fp := ([] : Seg)) (L := L) rfl rfl rfl rfl (ex_load_agg_s isAgg32 sizeOf32 rfl hp_124) (fun _ h => h) ?_
 rintro u_127 ⟨_, rfl, hu⟩
 obtain ⟨v_128, v_129, rfl, hr_130, hr_131, h_132, h_133⟩ := cR_rep.1 hu
 replace hV := hV hr_130 hr_131
 intro q_126 hq_125
 refine Dm fun q_135 hq_134 => ?_
 refine Dm fun q_137 hq_136 => ?_
 obtain ⟨hin_140, hV⟩ := hV
 refine Wd.runx rfl rfl rfl rfl (exAll (ex_index underlying30 sizeOf32 rfl rfl h_6 hin_140)) ?_
 intro p_141 hp_142
 intro q_139 hq_138
 refine Wd.runs (fp := ([] : Seg)) (L := L) rfl rfl rfl rfl (ex_load_agg_s isAgg32 sizeOf32 rfl hp_142) (fun _ h => h) ?_
 rintro u_145 ⟨_, rfl, hu⟩
 obtain ⟨v_146, v_147, rfl, hr_148, hr_149, h_150, h_151⟩ := cR_rep.1 hu
 replace hV := hV hr_148 hr_149
 intro q_144 hq_143
 refine Wd.turn rfl rfl rfl fun w hS => ?_
 refine Rc (enters0 (vs := [.agg #[i6 ((ix a_1 i_61).k), i6 ((ix a_1 i_61).i), sv ((ix a_1 i_61).t), v_128, v_129], .agg #[i6 ((ix b_4 i_61).k), i6 ((ix b_4 i_61).i), sv ((ix b_4 i_61).t), v_146, v_147]]) call20 ⟨rfl, rfl, trivial⟩) (hG (a_1 := (ix a_1 i_61)) (b_8 := (ix b_4 i_61)) hr_130 hr_131 h_132 h_133 hr_148 hr_149 h_150 h_151 hS hV) ?_
 clear hV hS
 rintro _ w ⟨r_152, hV, rfl, hr_153, hS⟩
 refine ⟨_, rfl, ?_⟩
 refine WL.nil (DQ.mk2 (C' := St w0 H (L)) hS ⟨il, il, il, il, il, il, il, il, trivial⟩ ?_)
 clear hS w
 refine Wd.run rfl rfl rfl rfl (fun _ => ex_assign rfl) fun q_156 hq_155 => ?_
 refine Wd.nil fun w hS => ?_
 refine WQ.next (Sb [(0, v_2), (1, v_5), (5, i6 i_61), (6, i6 r_152)] ?_)
 refine WC.sr ?_
 iterate 2 refine R hS ?_
 refine WL.nx ?_
 refine Cd ?_ ?_
 intro hc_160
 replace hV := hV.1 (od hc_160)
 refine WC.sr ?_
 iterate 2 refine R hS ?_
 refine WL.nx (WC.ret (WQ.out nofun (Wp ?_)))
 refine Wp ?_
 refine WQ.out nofun (Wp ?_)
 exact leave1 rfl rfl (⟨r_152, hV, rfl, hr_153, hS⟩)
 intro hc_160
 replace hV := hV.2 (ov hc_160)
 refine WC.skip (WQ.out nofun (WQ.next (WC.region (R hS ?_))))
 obtain ⟨hi_159, hV⟩ := hV
 iterate 2 refine R hS ?_
 refine WL.nil ?_
 exact Wt fun a ha => ⟨(i_61 + (1 : Int)), ⟨(i_61 + (1 : Int)), rfl, hV.1, hi_159, hS, ha.os⟩, hV.2⟩
 intro hc_161
 replace hV := hV.2 (ov hc_161)
 refine WC.exit (Wp ?_)
 refine Wp ?_
 refine WQ.hit (WQ.next (WC.sr (R hS ?_)))
 refine WL.nx (WC.ret ?_)
 exact leave1 rfl rfl (⟨(0 : Int), hV, rfl, i0, hS⟩)
theorem S_rCompare (m0 : Nat) : ∀ {w0 : World} {H : View} {L : Seg} {w : World} {a_1 : RV} {v_2 : Value} {v_3 : Value} {b_8 : RV} {v_9 : Value} {v_10 : Value} {Q : Int → Prop} (hr_4 : I64 a_1.k) (hr_5 : I64 a_1.i) (h_6 : IsSl H cR v_2 a_1.ks) (h_7 : IsSl H cR v_3 a_1.vs) (hr_11 : I64 b_8.k) (hr_12 : I64 b_8.i) (h_13 : IsSl H cR v_9 b_8.ks) (h_14 : IsSl H cR v_10 b_8.vs) (hS : St w0 H (L) w) (hV : V_rCompare m0 a_1 b_8 Q),
 Calls Tryz.prog 20 #[.agg #[i6 a_1.k, i6 a_1.i, sv a_1.t, v_2, v_3], .agg #[i6 b_8.k, i6 b_8.i, sv b_8.t, v_9, v_10]] w fun e w' => ∃ (r1 : Int), Q r1 ∧ e = .returned (i6 r1) ∧ I64 r1 ∧ St w0 H (L) w' := by
 induction m0 with
 | zero => intro w0 H L w a_1 v_2 v_3 b_8 v_9 v_10 Q hr_4 hr_5 h_6 h_7 hr_11 hr_12 h_13 h_14 hS hV; exact hV.elim
 | succ m0 ih =>
  intro w0 H L w a_1 v_2 v_3 b_8 v_9 v_10 Q hr_4 hr_5 h_6 h_7 hr_11 hr_12 h_13 h_14 hS hV
  unfold V_rCompare at hV
  refine enter func20 rfl ntmps20 rfl (lk_args_cons (d := 0) (v := .agg #[i6 a_1.k, i6 a_1.i, sv a_1.t, v_2, v_3]) rfl (lk_args_cons (d := 1) (v := .agg #[i6 b_8.k, i6 b_8.i, sv b_8.t, v_9, v_10]) rfl (lk_args_nil _))) (WC.sr (WL.box (arr := #[i6 a_1.k, i6 a_1.i, sv a_1.t, v_2, v_3]) rfl rfl rfl hS ?_))
  clear hS
  intro b_15 w hS
  refine WL.box (arr := #[i6 b_8.k, i6 b_8.i, sv b_8.t, v_9, v_10]) rfl rfl rfl hS ?_
  clear hS
  intro b_17 w hS
  refine R hS ?_
  refine WL.nx (WC.seq (WC.sr (R hS ?_)))
  replace hS := hS.f2
  iterate 2 refine R hS ?_
  replace hS := hS.f2
  iterate 2 refine R hS ?_
  refine WL.nx ?_
  refine Cd ?_ ?_
  intro hc_57
  replace hV := hV.1 (od hc_57)
  refine WC.sr (R hS ?_)
  refine WL.nx (Sb [(4, i6 (-1))] ?_)
  replace hS := hS.f2.drop
  replace hS := hS.drop
  refine WC.ret (Wp ?_)
  exact leave1 rfl rfl (⟨(-1), hV, rfl, (show I64 ((-1) : Int) by unfold I64; omega), hS⟩)
  intro hc_57
  replace hV := hV.2 (ov hc_57)
  refine WC.skip (WQ.next (WC.seq (WC.sr (R hS ?_))))
  replace hS := hS.f2
  iterate 2 refine R hS ?_
  replace hS := hS.f2
  iterate 2 refine R hS ?_
  refine WL.nx (Sb [(2, (pq b_15)), (3, (pq b_17)), (15, .bool (decide (b_8.k < a_1.k)))] ?_)
  refine Cd ?_ ?_
  intro hc_56
  replace hV := hV.1 (od hc_56)
  refine WC.sr (R hS ?_)
  refine WL.nx ?_
  replace hS := hS.f2.drop
  replace hS := hS.drop
  refine WC.ret (Wp ?_)
  exact leave1 rfl rfl (⟨(1 : Int), hV, rfl, (show I64 (1 : Int) by unfold I64; omega), hS⟩)
  intro hc_56
  replace hV := hV.2 (ov hc_56)
  refine WC.skip (WQ.next (WC.seq (WC.sr (R hS ?_))))
  replace hS := hS.f2
  iterate 2 refine R hS ?_
  replace hS := hS.f2
  iterate 2 refine R hS ?_
  refine WL.nx ?_
  refine Cd ?_ ?_
  intro hc_55
  replace hV := hV.1 (od hc_55)
  refine WC.sr (R hS ?_)
  refine WL.nx ?_
  replace hS := hS.f2.drop
  replace hS := hS.drop
  refine WC.ret (Wp ?_)
  exact leave1 rfl rfl (⟨(-1), hV, rfl, (show I64 ((-1) : Int) by unfold I64; omega), hS⟩)
  intro hc_55
  replace hV := hV.2 (ov hc_55)
  refine WC.skip (WQ.next (WC.seq (WC.sr (R hS ?_))))
  replace hS := hS.f2
  iterate 2 refine R hS ?_
  replace hS := hS.f2
  iterate 2 refine R hS ?_
  refine WL.nx (Sb [(2, (pq b_15)), (3, (pq b_17)), (25, .bool (decide (b_8.i < a_1.i)))] ?_)
  refine Cd ?_ ?_
  intro hc_54
  replace hV := hV.1 (od hc_54)
  refine WC.sr (R hS ?_)
  refine WL.nx ?_
  replace hS := hS.f2.drop
  replace hS := hS.drop
  refine WC.ret (Wp ?_)
  exact leave1 rfl rfl (⟨(1 : Int), hV, rfl, (show I64 (1 : Int) by unfold I64; omega), hS⟩)
  intro hc_54
  replace hV := hV.2 (ov hc_54)
  refine WC.skip (WQ.next (WC.sr (R hS ?_)))
  replace hS := hS.f2
  iterate 2 refine R hS ?_
  replace hS := hS.f2
  refine R hS ?_
  refine Rc (enters0 (vs := [sv a_1.t, sv b_8.t]) call54 ⟨rfl, rfl, trivial⟩) (S_rtexts  hS hV) ?_
  clear hV hS
  rintro _ w ⟨r_23, hV, rfl, hr_24, hS⟩
  refine ⟨_, rfl, ?_⟩
  refine R hS ?_
  refine WL.nx ?_
  obtain ⟨J_33, hJ_34, hV⟩ := hV
  refine WC.meet (fun a w => ∃ (c_31 : Int), J_33 c_31 ∧ I64 c_31 ∧ St w0 H ([(b_15, oc #[i6 a_1.k, i6 a_1.i, sv a_1.t, v_2, v_3] 32)] ++ ([(b_17, oc #[i6 b_8.k, i6 b_8.i, sv b_8.t, v_9, v_10] 32)] ++ L)) w ∧ Fr 46 [(2, (pq b_15)), (3, (pq b_17)), (5, i6 c_31)] a) ?_ ?_
  rintro a w ⟨c_31, hI, hr_32, hS, ha⟩
  refine in_frame ha ?_
  clear ha hV
  have hV := hJ_34 _ hI
  clear hI hJ_34
  obtain ⟨J_47, hJ_48, hV⟩ := hV
  refine WC.meet (fun a w => ∃ (c_45 : Int), J_47 c_45 ∧ I64 c_45 ∧ St w0 H (L) w ∧ Fr 46 [(5, i6 c_45)] a) ?_ ?_
  rintro a w ⟨c_45, hI, hr_46, hS, ha⟩
  refine in_frame ha ?_
  clear ha hV
  have hV := hJ_48 _ hI
  clear hI hJ_48
  refine WC.sr ?_
  iterate 2 refine R hS ?_
  refine WL.nx (WC.ret ?_)
  exact leave1 rfl rfl (⟨c_45, hV, rfl, hr_46, hS⟩)
  clear hJ_48
  refine WC.sr ?_
  iterate 2 refine R hS ?_
  refine WL.nx ?_
  refine Cd ?_ ?_
  intro hc_53
  replace hV := hV.1 (od hc_53)
  refine WC.region ?_
  iterate 3 refine R hS ?_
  replace hS := hS.f2
  refine R hS ?_
  refine Rc (enters0 (vs := [v_3, v_10]) call55 ⟨rfl, rfl, trivial⟩) (S_rlists (@ih) h_7 h_14 hS hV) ?_
  clear hV hS
  rintro _ w ⟨r_50, hV, rfl, hr_51, hS⟩
  refine ⟨_, rfl, ?_⟩
  refine R hS ?_
  refine WL.nil ?_
  replace hS := hS.drop
  replace hS := hS.drop
  exact Wt fun a ha => ⟨r_50, hV, hr_51, hS, ha.os⟩
  intro hc_53
  replace hV := hV.2 (ov hc_53)
  refine WC.skip ?_
  replace hS := hS.drop
  replace hS := hS.drop
  exact Wt fun a ha => ⟨c_31, hV, hr_32, hS, ha.os⟩
  clear hJ_34
  refine WC.sr ?_
  iterate 2 refine R hS ?_
  refine WL.nx ?_
  refine Cd ?_ ?_
  intro hc_39
  replace hV := hV.1 (od hc_39)
  refine WC.region (R hS ?_)
  replace hS := hS.f2
  iterate 2 refine R hS ?_
  replace hS := hS.f2
  refine R hS ?_
  refine Rc (enters0 (vs := [v_2, v_9]) call55 ⟨rfl, rfl, trivial⟩) (S_rlists (@ih) h_6 h_13 hS hV) ?_
  clear hV hS
  rintro _ w ⟨r_36, hV, rfl, hr_37, hS⟩
  refine ⟨_, rfl, ?_⟩
  refine R hS ?_
  refine WL.nil ?_
  replace hS := hS.f2
  exact Wt fun a ha => ⟨r_36, hV, hr_37, hS, ha.os⟩
  intro hc_39
  replace hV := hV.2 (ov hc_39)
  refine WC.skip ?_
  replace hS := hS.f2
  exact Wt fun a ha => ⟨r_23, hV, hr_24, hS, ha.os⟩
theorem S_rWeight (m0 : Nat) : ∀ {w0 : World} {H : View} {L : Seg} {w : World} {v_1 : RV} {v_2 : Value} {v_3 : Value} {Q : Int → Prop} (hr_4 : I64 v_1.k) (hr_5 : I64 v_1.i) (h_6 : IsSl H cR v_2 v_1.ks) (h_7 : IsSl H cR v_3 v_1.vs) (hS : St w0 H (L) w) (hV : V_rWeight m0 v_1 Q),
 Calls Tryz.prog 14 #[.agg #[i6 v_1.k, i6 v_1.i, sv v_1.t, v_2, v_3]] w fun e w' => ∃ (r1 : Int), Q r1 ∧ e = .returned (i6 r1) ∧ I64 r1 ∧ St w0 H (L) w' := by
 induction m0 with
 | zero => intro w0 H L w v_1 v_2 v_3 Q hr_4 hr_5 h_6 h_7 hS hV; exact hV.elim
 | succ m0 ih =>
  intro w0 H L w v_1 v_2 v_3 Q hr_4 hr_5 h_6 h_7 hS hV
  unfold V_rWeight at hV
  refine enter func14 rfl ntmps14 rfl (lk_args_cons (d := 0) (v := .agg #[i6 v_1.k, i6 v_1.i, sv v_1.t, v_2, v_3]) rfl (lk_args_nil _)) (WC.sr (WL.box (arr := #[i6 v_1.k, i6 v_1.i, sv v_1.t, v_2, v_3]) rfl rfl rfl hS ?_))
  clear hS
  intro b_8 w hS
  refine R hS ?_
  refine WL.nx (WC.sr (R hS ?_))
  refine WL.nx (WC.seq (WC.sr (R hS ?_)))
  refine WL.nx (WC.block ?_)
  obtain ⟨I_54, mu_55, hI_145, hV⟩ := hV
  refine WC.loop (σ := Int × Int) (fun s a w => ∃ (n_30 : Int) (i_32 : Int), s = (n_30, i_32) ∧ I_54 (n_30, i_32) ∧ I64 n_30 ∧ I64 i_32 ∧ St w0 H ([(b_8, oc #[i6 v_1.k, i6 v_1.i, sv v_1.t, v_2, v_3] 32)] ++ L) w ∧ Fr 41 [(1, (pq b_8)), (3, i6 n_30), (4, i6 i_32)] a) mu_55 ((1 : Int), (0 : Int)) ?_ ?_
  exact fun a ha => ⟨(1 : Int), (0 : Int), rfl, hI_145, (show I64 (1 : Int) by unfold I64; omega), i0, hS, ha.os⟩
  clear hS hI_145
  rintro _ a w ⟨n_30, i_32, rfl, hI, hr_31, hr_33, hS, ha⟩
  refine in_frame ha ?_
  clear ha
  replace hV := hV _ hI
  clear hI
  refine WC.seq (WC.sr ?_)
  iterate 3 refine R hS ?_
  have hl_57 : Len v_1.ks := h_6.bound
  replace hV := hV hl_57
  refine Rn hS (ex_len_sl underlying30 rfl h_6) ?_
  refine R hS ?_
  refine WL.nx ?_
  refine Cd ?_ ?_
  intro hc_144
  replace hV := hV.1 (od hc_144)
  refine WC.skip (WQ.next (WC.seq (WC.block (WC.sr ?_))))
  iterate 3 refine R hS ?_
  obtain ⟨hin_59, hV⟩ := hV
  refine Rx hS (ex_index underlying30 sizeOf32 rfl rfl h_6 hin_59) ?_
  intro p_60 hp_61
  refine Rx hS (ex_load_agg isAgg32 sizeOf32 rfl hp_61) ?_
  rintro u_62 ⟨_, rfl, hu⟩
  obtain ⟨v_63, v_64, rfl, hr_65, hr_66, h_67, h_68⟩ := cR_rep.1 hu
  replace hV := hV hr_65 hr_66
  refine Rc (enters0 (vs := [.agg #[i6 ((ix v_1.ks i_32).k), i6 ((ix v_1.ks i_32).i), sv ((ix v_1.ks i_32).t), v_63, v_64]]) call14 ⟨rfl, trivial⟩) (ih (v_1 := (ix v_1.ks i_32)) hr_65 hr_66 h_67 h_68 hS hV) ?_
  clear hV hS
  rintro _ w ⟨r_69, hV, rfl, hr_70, hS⟩
  refine ⟨_, rfl, ?_⟩
  refine R hS ?_
  refine WL.nx (Sb [(1, (pq b_8)), (3, i6 n_30), (4, i6 i_32), (5, i6 r_69)] ?_)
  refine WC.region ?_
  iterate 2 refine R hS ?_
  obtain ⟨hi_73, hV⟩ := hV
  iterate 2 refine R hS ?_
  refine WL.nil (WQ.out nofun (WQ.next (WC.region (R hS ?_))))
  obtain ⟨hi_75, hV⟩ := hV
  iterate 2 refine R hS ?_
  refine WL.nil ?_
  exact Wt fun a ha => ⟨((n_30 + r_69), (i_32 + (1 : Int))), ⟨(n_30 + r_69), (i_32 + (1 : Int)), rfl, hV.1, hi_73, hi_75, hS, ha.os⟩, hV.2⟩
  intro hc_144
  replace hV := hV.2 (ov hc_144)
  refine WC.exit (Wp ?_)
  refine Wp ?_
  refine WQ.hit (WQ.next (WC.seq (WC.sr (R hS ?_))))
  refine WL.nx (WC.block ?_)
  obtain ⟨I_120, mu_121, hI_143, hV⟩ := hV
  refine WC.loop (σ := Int × Int) (fun s a w => ∃ (n_96 : Int) (i_98 : Int), s = (n_96, i_98) ∧ I_120 (n_96, i_98) ∧ I64 n_96 ∧ I64 i_98 ∧ St w0 H ([(b_8, oc #[i6 v_1.k, i6 v_1.i, sv v_1.t, v_2, v_3] 32)] ++ L) w ∧ Fr 41 [(1, (pq b_8)), (3, i6 n_96), (6, i6 i_98)] a) mu_121 (n_30, (0 : Int)) ?_ ?_
  exact fun a ha => ⟨n_30, (0 : Int), rfl, hI_143, hr_31, i0, hS, ha.os⟩
  clear hS hI_143
  rintro _ a w ⟨n_96, i_98, rfl, hI, hr_97, hr_99, hS, ha⟩
  refine in_frame ha ?_
  clear ha
  replace hV := hV _ hI
  clear hI
  refine WC.seq (WC.sr ?_)
  iterate 3 refine R hS ?_
  have hl_123 : Len v_1.vs := h_7.bound
  replace hV := hV hl_123
  refine Rn hS (ex_len_sl underlying30 rfl h_7) ?_
  refine R hS ?_
  refine WL.nx ?_
  refine Cd ?_ ?_
  intro hc_142
  replace hV := hV.1 (od hc_142)
  refine WC.skip (WQ.next (WC.seq (WC.block (WC.sr ?_))))
  iterate 3 refine R hS ?_
  obtain ⟨hin_125, hV⟩ := hV
  refine Rx hS (ex_index underlying30 sizeOf32 rfl rfl h_7 hin_125) ?_
  intro p_126 hp_127
  refine Rx hS (ex_load_agg isAgg32 sizeOf32 rfl hp_127) ?_
  rintro u_128 ⟨_, rfl, hu⟩
  obtain ⟨v_129, v_130, rfl, hr_131, hr_132, h_133, h_134⟩ := cR_rep.1 hu
  replace hV := hV hr_131 hr_132
  refine Rc (enters0 (vs := [.agg #[i6 ((ix v_1.vs i_98).k), i6 ((ix v_1.vs i_98).i), sv ((ix v_1.vs i_98).t), v_129, v_130]]) call14 ⟨rfl, trivial⟩) (ih (v_1 := (ix v_1.vs i_98)) hr_131 hr_132 h_133 h_134 hS hV) ?_
  clear hV hS
  rintro _ w ⟨r_135, hV, rfl, hr_136, hS⟩
  refine ⟨_, rfl, ?_⟩
  refine R hS ?_
  refine WL.nx (Sb [(1, (pq b_8)), (3, i6 n_96), (6, i6 i_98), (7, i6 r_135)] ?_)
  refine WC.region ?_
  iterate 2 refine R hS ?_
  obtain ⟨hi_139, hV⟩ := hV
  iterate 2 refine R hS ?_
  refine WL.nil (WQ.out nofun (WQ.next (WC.region (R hS ?_))))
  obtain ⟨hi_141, hV⟩ := hV
  iterate 2 refine R hS ?_
  refine WL.nil ?_
  exact Wt fun a ha => ⟨((n_96 + r_135), (i_98 + (1 : Int))), ⟨(n_96 + r_135), (i_98 + (1 : Int)), rfl, hV.1, hi_139, hi_141, hS, ha.os⟩, hV.2⟩
  intro hc_142
  replace hV := hV.2 (ov hc_142)
  refine WC.exit (Wp ?_)
  refine Wp ?_
  refine WQ.hit (WQ.next ?_)
  replace hS := hS.drop
  refine WC.sr ?_
  iterate 2 refine R hS ?_
  refine WL.nx (WC.ret ?_)
  exact leave1 rfl rfl (⟨n_96, hV, rfl, hr_97, hS⟩)
theorem S_rLight {w0 : World} {H : View} {L : Seg} {w : World} {v_1 : RV} {v_2 : Value} {v_3 : Value} {Q : RV → Prop} (hr_4 : I64 v_1.k) (hr_5 : I64 v_1.i) (h_6 : IsSl H cR v_2 v_1.ks) (h_7 : IsSl H cR v_3 v_1.vs) (hS : St w0 H (L) w) (hV : V_rLight v_1 Q) :
 Calls Tryz.prog 80 #[.agg #[i6 v_1.k, i6 v_1.i, sv v_1.t, v_2, v_3]] w fun e w' => ∃ (r1 : RV) (u1 : Value) (w1 : Value) (H' : View), Q r1 ∧ e = .returned (.agg #[i6 r1.k, i6 r1.i, sv r1.t, u1, w1]) ∧ View.le H H' ∧ I64 r1.k ∧ I64 r1.i ∧ IsSl H' cR u1 r1.ks ∧ IsSl H' cR w1 r1.vs ∧ St w0 H' (L) w' := by
 unfold V_rLight at hV
 refine enter func80 rfl ntmps80 rfl (lk_args_cons (d := 0) (v := .agg #[i6 v_1.k, i6 v_1.i, sv v_1.t, v_2, v_3]) rfl (lk_args_nil _)) (WC.sr (WL.box (arr := #[i6 v_1.k, i6 v_1.i, sv v_1.t, v_2, v_3]) rfl rfl rfl hS ?_))
 clear hS
 intro b_8 w hS
 refine WL.alloc (arr := #[i6 0, i6 0, sv ([] : Str), ns, ns]) rfl zeroValue32 rfl hS ?_
 clear hS
 intro b_10 w hS
 refine WL.nx (WC.sr ?_)
 replace hS := hS.f2
 refine Rn hS (ex_load_box_agg (cs := [i6 v_1.k, i6 v_1.i, sv v_1.t, v_2, v_3]) isAgg32 sizeOf32 rfl rfl rfl) ?_
 obtain ⟨mf, hV⟩ := hV
 refine Rc (enters0 (vs := [.agg #[i6 v_1.k, i6 v_1.i, sv v_1.t, v_2, v_3]]) call14 ⟨rfl, trivial⟩) (S_rWeight mf (v_1 := v_1) hr_4 hr_5 h_6 h_7 hS hV) ?_
 clear hV hS
 rintro _ w ⟨r_14, hV, rfl, hr_15, hS⟩
 refine ⟨_, rfl, ?_⟩
 refine R hS ?_
 refine WL.nx (WC.seq (WC.sr ?_))
 iterate 2 refine R hS ?_
 refine WL.nx ?_
 refine Cd ?_ ?_
 intro hc_22
 replace hV := hV.1 (od hc_22)
 refine WC.sr (Rn hS (ex_build (vs := []) (zc := #[i6 0, i6 0, sv ([] : Str), ns, ns]) (cs := #[i6 0, i6 0, sv ([] : Str), ns, ns]) (places := #[(0, 1), (1, 1), (2, 1), (3, 1), (4, 1)]) underlying32 zeroValue32 (fun w => by simp [sizeOf2, sizeOf3, sizeOf30, sizeOf9]) rfl trivial rfl (by simp [Instr.fill, cells_int, cells_bool, cells_iface, cells_niliface, cells_slice, str_cells])) ?_)
 replace hS := hS.f2
 refine St1 #[i6 0, i6 0, sv ([] : Str), ns, ns] sizeOf32 hS ?_
 clear hS
 intro w hS
 refine WL.nx ?_
 replace hS := hS.f2.drop
 refine WC.ret (Wp ?_)
 have hl_20 := load_own_agg (P := Tryz.prog) (cs := [i6 0, i6 0, sv ([] : Str), ns, ns]) isAgg32 sizeOf32 hS rfl
 replace hS := hS.drop
 exact leavec1 (il) rfl rfl hl_20 (⟨(RV.mk 0 0 ([] : Str) ([] : List RV) ([] : List RV)), ns, ns, H, hV, rfl, (View.le.refl _), i0, i0, IsSl.nil, IsSl.nil, hS⟩)
 intro hc_22
 replace hV := hV.2 (ov hc_22)
 refine WC.skip (WQ.next (WC.sr (Rn hS (ex_load_box_agg (cs := [i6 v_1.k, i6 v_1.i, sv v_1.t, v_2, v_3]) isAgg32 sizeOf32 rfl rfl rfl) ?_)))
 replace hS := hS.f2
 refine St1 #[i6 v_1.k, i6 v_1.i, sv v_1.t, v_2, v_3] sizeOf32 hS ?_ (cs := [i6 v_1.k, i6 v_1.i, sv v_1.t, v_2, v_3]) (hone := ⟨rfl, rfl, rfl, (IsSl.one h_6), (IsSl.one h_7), trivial⟩)
 clear hS
 intro w hS
 refine WL.nx ?_
 replace hS := hS.f2.drop
 refine WC.ret ?_
 have hl_21 := load_own_agg (P := Tryz.prog) (cs := [i6 v_1.k, i6 v_1.i, sv v_1.t, v_2, v_3]) isAgg32 sizeOf32 hS rfl
 replace hS := hS.drop
 exact leavec1 (il) rfl rfl hl_21 (⟨v_1, v_2, v_3, H, hV, rfl, (View.le.refl _), hr_4, hr_5, h_6, h_7, hS⟩)
theorem S_rTruth {w0 : World} {H : View} {L : Seg} {w : World} {b_1 : Bool} {Q : RV → Prop}  (hS : St w0 H (L) w) (hV : V_rTruth b_1 Q) :
 Calls Tryz.prog 83 #[.bool b_1] w fun e w' => ∃ (r1 : RV) (u1 : Value) (w1 : Value) (H' : View), Q r1 ∧ e = .returned (.agg #[i6 r1.k, i6 r1.i, sv r1.t, u1, w1]) ∧ View.le H H' ∧ I64 r1.k ∧ I64 r1.i ∧ IsSl H' cR u1 r1.ks ∧ IsSl H' cR w1 r1.vs ∧ St w0 H' (L) w' := by
 unfold V_rTruth at hV
 refine enter func83 rfl ntmps83 rfl (lk_args_cons (d := 0) (v := .bool b_1) rfl (lk_args_nil _)) (WC.sr (WL.alloc (arr := #[i6 0, i6 0, sv ([] : Str), ns, ns]) rfl zeroValue32 rfl hS ?_))
 clear hS
 intro b_2 w hS
 refine WL.nx (WC.seq (WC.sr (R hS ?_)))
 refine WL.nx ?_
 refine Cd ?_ ?_
 intro hc_12
 replace hV := hV.1 hc_12
 refine WC.sr (Rn hS (ex_build (vs := [i6 (1 : Int), i6 (1 : Int)]) (zc := #[i6 0, i6 0, sv ([] : Str), ns, ns]) (cs := #[i6 (1 : Int), i6 (1 : Int), sv ([] : Str), ns, ns]) (places := #[(0, 1), (1, 1), (2, 1), (3, 1), (4, 1)]) underlying32 zeroValue32 (fun w => by simp [sizeOf2, sizeOf3, sizeOf30, sizeOf9]) rfl ⟨rfl, rfl, trivial⟩ rfl (by simp [Instr.fill, cells_int, cells_bool, cells_iface, cells_niliface, cells_slice, str_cells])) ?_)
 refine St1 #[i6 (1 : Int), i6 (1 : Int), sv ([] : Str), ns, ns] sizeOf32 hS ?_
 clear hS
 intro w hS
 refine WL.nx (WC.ret (Wp ?_))
 have hl_8 := load_own_agg (P := Tryz.prog) (cs := [i6 (1 : Int), i6 (1 : Int), sv ([] : Str), ns, ns]) isAgg32 sizeOf32 hS rfl
 replace hS := hS.drop
 exact leavec1 (il) rfl rfl hl_8 (⟨(RV.mk (1 : Int) (1 : Int) ([] : Str) ([] : List RV) ([] : List RV)), ns, ns, H, hV, rfl, (View.le.refl _), (show I64 (1 : Int) by unfold I64; omega), (show I64 (1 : Int) by unfold I64; omega), IsSl.nil, IsSl.nil, hS⟩)
 intro hc_12
 replace hV := hV.2 hc_12
 refine WC.skip (WQ.next (WC.sr (Rn hS (ex_build (vs := [i6 (1 : Int)]) (zc := #[i6 0, i6 0, sv ([] : Str), ns, ns]) (cs := #[i6 (1 : Int), i6 0, sv ([] : Str), ns, ns]) (places := #[(0, 1), (1, 1), (2, 1), (3, 1), (4, 1)]) underlying32 zeroValue32 (fun w => by simp [sizeOf2, sizeOf3, sizeOf30, sizeOf9]) rfl ⟨rfl, trivial⟩ rfl (by simp [Instr.fill, cells_int, cells_bool, cells_iface, cells_niliface, cells_slice, str_cells])) ?_)))
 refine St1 #[i6 (1 : Int), i6 0, sv ([] : Str), ns, ns] sizeOf32 hS ?_
 clear hS
 intro w hS
 refine WL.nx (WC.ret ?_)
 have hl_11 := load_own_agg (P := Tryz.prog) (cs := [i6 (1 : Int), i6 0, sv ([] : Str), ns, ns]) isAgg32 sizeOf32 hS rfl
 replace hS := hS.drop
 exact leavec1 (il) rfl rfl hl_11 (⟨(RV.mk (1 : Int) 0 ([] : Str) ([] : List RV) ([] : List RV)), ns, ns, H, hV, rfl, (View.le.refl _), (show I64 (1 : Int) by unfold I64; omega), i0, IsSl.nil, IsSl.nil, hS⟩)
theorem S_rNumber {w0 : World} {H : View} {L : Seg} {w : World} {n_1 : Int} {Q : RV → Prop} (hr_2 : I64 n_1) (hS : St w0 H (L) w) (hV : V_rNumber n_1 Q) :
 Calls Tryz.prog 81 #[i6 n_1] w fun e w' => ∃ (r1 : RV) (u1 : Value) (w1 : Value) (H' : View), Q r1 ∧ e = .returned (.agg #[i6 r1.k, i6 r1.i, sv r1.t, u1, w1]) ∧ View.le H H' ∧ I64 r1.k ∧ I64 r1.i ∧ IsSl H' cR u1 r1.ks ∧ IsSl H' cR w1 r1.vs ∧ St w0 H' (L) w' := by
 unfold V_rNumber at hV
 refine enter func81 rfl ntmps81 rfl (lk_args_cons (d := 0) (v := i6 n_1) rfl (lk_args_nil _)) (WC.sr (WL.alloc (arr := #[i6 0, i6 0, sv ([] : Str), ns, ns]) rfl zeroValue32 rfl hS ?_))
 clear hS
 intro b_3 w hS
 refine WL.nx (WC.sr (R hS ?_))
 refine Rn hS (ex_build (vs := [i6 (2 : Int), i6 n_1]) (zc := #[i6 0, i6 0, sv ([] : Str), ns, ns]) (cs := #[i6 (2 : Int), i6 n_1, sv ([] : Str), ns, ns]) (places := #[(0, 1), (1, 1), (2, 1), (3, 1), (4, 1)]) underlying32 zeroValue32 (fun w => by simp [sizeOf2, sizeOf3, sizeOf30, sizeOf9]) rfl ⟨rfl, rfl, trivial⟩ rfl (by simp [Instr.fill, cells_int, cells_bool, cells_iface, cells_niliface, cells_slice, str_cells])) ?_
 refine St1 #[i6 (2 : Int), i6 n_1, sv ([] : Str), ns, ns] sizeOf32 hS ?_
 clear hS
 intro w hS
 refine WL.nx (WC.ret ?_)
 have hl_9 := load_own_agg (P := Tryz.prog) (cs := [i6 (2 : Int), i6 n_1, sv ([] : Str), ns, ns]) isAgg32 sizeOf32 hS rfl
 replace hS := hS.drop
 exact leavec1 (il) rfl rfl hl_9 (⟨(RV.mk (2 : Int) n_1 ([] : Str) ([] : List RV) ([] : List RV)), ns, ns, H, hV, rfl, (View.le.refl _), (show I64 (2 : Int) by unfold I64; omega), hr_2, IsSl.nil, IsSl.nil, hS⟩)
theorem S_rplace {w0 : World} {H : View} {L : Seg} {w : World} {v_2 : Value} {l_1 : List RV} {v_4 : RV} {v_5 : Value} {v_6 : Value} {Q : Int → Bool → Prop} (h_3 : IsSl H cR v_2 l_1) (hr_7 : I64 v_4.k) (hr_8 : I64 v_4.i) (h_9 : IsSl H cR v_5 v_4.ks) (h_10 : IsSl H cR v_6 v_4.vs) (hS : St w0 H (L) w) (hV : V_rplace l_1 v_4 Q) :
 Calls Tryz.prog 78 #[v_2, .agg #[i6 v_4.k, i6 v_4.i, sv v_4.t, v_5, v_6]] w fun e w' => ∃ (r1 : Int) (r2 : Bool), Q r1 r2 ∧ e = .returned (.tuple #[i6 r1, .bool r2]) ∧ I64 r1 ∧ St w0 H (L) w' := by
 unfold V_rplace at hV
 refine enter func78 rfl ntmps78 rfl (lk_args_cons (d := 0) (v := v_2) rfl (lk_args_cons (d := 1) (v := .agg #[i6 v_4.k, i6 v_4.i, sv v_4.t, v_5, v_6]) rfl (lk_args_nil _))) (WC.sr (WL.box (arr := #[i6 v_4.k, i6 v_4.i, sv v_4.t, v_5, v_6]) rfl rfl rfl hS ?_))
 clear hS
 intro b_11 w hS
 iterate 2 refine R hS ?_
 refine WL.nx (WC.sr (R hS ?_))
 refine WL.nx (WC.sr (R hS ?_))
 have hl_13 : Len l_1 := h_3.bound
 replace hV := hV hl_13
 refine Rn hS (ex_len_sl underlying30 rfl h_3) ?_
 refine R hS ?_
 refine WL.nx (WC.seq (WC.block ?_))
 obtain ⟨I_90, mu_91, hI_129, hV⟩ := hV
 refine WC.loop (σ := Int × Int) (fun s a w => ∃ (a_50 : Int) (b_52 : Int), s = (a_50, b_52) ∧ I_90 (a_50, b_52) ∧ I64 a_50 ∧ I64 b_52 ∧ St w0 H ([(b_11, oc #[i6 v_4.k, i6 v_4.i, sv v_4.t, v_5, v_6] 32)] ++ L) w ∧ Fr 34 [(0, v_2), (3, (pq b_11)), (6, i6 a_50), (7, i6 b_52)] a) mu_91 ((0 : Int), (l_1.length : Int)) ?_ ?_
 exact fun a ha => ⟨(0 : Int), (l_1.length : Int), rfl, hI_129, i0, (Len.i64 hl_13), hS, ha.os⟩
 clear hS hI_129
 rintro _ a w ⟨a_50, b_52, rfl, hI, hr_51, hr_53, hS, ha⟩
 refine in_frame ha ?_
 clear ha
 replace hV := hV _ hI
 clear hI
 refine WC.seq (WC.sr ?_)
 iterate 3 refine R hS ?_
 refine WL.nx ?_
 refine Cd ?_ ?_
 intro hc_128
 replace hV := hV.1 (od hc_128)
 refine WC.skip (WQ.next (WC.block (WC.sr ?_)))
 iterate 2 refine R hS ?_
 obtain ⟨hi_95, hV⟩ := hV
 refine R hS ?_
 obtain ⟨hi_96, hV⟩ := hV
 refine Rn hS (ex_quo rfl rfl hi_96) ?_
 refine R hS ?_
 refine WL.nx (WC.seq (WC.drawn (σ := [0, 1, 2, 3, 4, 5, 6]) (C := St w0 H ([(b_11, oc #[i6 v_4.k, i6 v_4.i, sv v_4.t, v_5, v_6] 32)] ++ L)) [[], [], [0, 1], [0, 1, 2], [], [0, 1, 2, 3, 4], [0, 1, 2, 3, 4, 5]] [5] mixed (by kernel_rfl) (hS.drawn _) ?_))
 clear hS w
 refine Dm fun q_98 hq_97 => ?_
 refine Dm fun q_100 hq_99 => ?_
 obtain ⟨hin_103, hV⟩ := hV
 refine Wd.runx rfl rfl rfl rfl (exAll (ex_index underlying30 sizeOf32 rfl rfl h_3 hin_103)) ?_
 intro p_104 hp_105
 intro q_102 hq_101
 refine Wd.runs (fp := ([] : Seg)) (L := [(b_11, oc #[i6 v_4.k, i6 v_4.i, sv v_4.t, v_5, v_6] 32)] ++ L) rfl rfl rfl rfl (ex_load_agg_s isAgg32 sizeOf32 rfl hp_105) (fun _ h => h) ?_
 rintro u_108 ⟨_, rfl, hu⟩
 obtain ⟨v_109, v_110, rfl, hr_111, hr_112, h_113, h_114⟩ := cR_rep.1 hu
 replace hV := hV hr_111 hr_112
 intro q_107 hq_106
 refine Wd.runbs (off := 0) (k := 5) (cs := [i6 v_4.k, i6 v_4.i, sv v_4.t, v_5, v_6]) rfl rfl rfl rfl (fun _ _ _ h => ex_load_box_agg isAgg32 sizeOf32 rfl h rfl) rfl (fun _ h => h) fun q_116 hq_115 => ?_
 refine Wd.turn rfl rfl rfl fun w hS => ?_
 obtain ⟨mf, hV⟩ := hV
 refine Rc (enters0 (vs := [.agg #[i6 ((ix l_1 ((a_50 + b_52).tdiv (2 : Int))).k), i6 ((ix l_1 ((a_50 + b_52).tdiv (2 : Int))).i), sv ((ix l_1 ((a_50 + b_52).tdiv (2 : Int))).t), v_109, v_110], .agg #[i6 v_4.k, i6 v_4.i, sv v_4.t, v_5, v_6]]) call20 ⟨rfl, rfl, trivial⟩) (S_rCompare mf (a_1 := (ix l_1 ((a_50 + b_52).tdiv (2 : Int)))) (b_8 := v_4) hr_111 hr_112 h_113 h_114 hr_7 hr_8 h_9 h_10 hS hV) ?_
 clear hV hS
 rintro _ w ⟨r_117, hV, rfl, hr_118, hS⟩
 refine ⟨_, rfl, ?_⟩
 refine WL.nil (DQ.mk2 (C' := St w0 H ([(b_11, oc #[i6 v_4.k, i6 v_4.i, sv v_4.t, v_5, v_6] 32)] ++ L)) hS ⟨il, il, il, il, il, trivial⟩ ?_)
 clear hS w
 refine Wd.run rfl rfl rfl rfl (fun _ => ex_assign rfl) fun q_121 hq_120 => ?_
 refine Wd.nil fun w hS => ?_
 refine WQ.next (Sb [(0, v_2), (3, (pq b_11)), (6, i6 a_50), (7, i6 b_52), (8, i6 ((a_50 + b_52).tdiv (2 : Int))), (9, i6 r_117)] ?_)
 refine WC.seq (WC.sr ?_)
 iterate 2 refine R hS ?_
 refine WL.nx ?_
 refine Cd ?_ ?_
 intro hc_127
 replace hV := hV.1 (od hc_127)
 refine WC.sr ?_
 iterate 3 refine R hS ?_
 refine WL.nx ?_
 replace hS := hS.drop
 refine WC.ret (Wp ?_)
 refine WQ.out nofun (Wp ?_)
 refine WQ.out nofun (Wp ?_)
 exact leave2 rfl rfl rfl (⟨((a_50 + b_52).tdiv (2 : Int)), true, hV, rfl, hi_96.2, hS⟩)
 intro hc_127
 replace hV := hV.2 (ov hc_127)
 refine WC.skip (WQ.next (WC.sr ?_))
 iterate 2 refine R hS ?_
 refine WL.nx ?_
 refine Cd ?_ ?_
 intro hc_126
 replace hV := hV.1 (od hc_126)
 refine WC.region (R hS ?_)
 obtain ⟨hi_125, hV⟩ := hV
 iterate 2 refine R hS ?_
 refine WL.nil (WQ.out nofun ?_)
 exact Wt fun a ha => ⟨((((a_50 + b_52).tdiv (2 : Int)) + (1 : Int)), b_52), ⟨(((a_50 + b_52).tdiv (2 : Int)) + (1 : Int)), b_52, rfl, hV.1, hi_125, hr_53, hS, ha.os⟩, hV.2⟩
 intro hc_126
 replace hV := hV.2 (ov hc_126)
 refine WC.region ?_
 iterate 2 refine R hS ?_
 refine WL.nil (WQ.out nofun ?_)
 exact Wt fun a ha => ⟨(a_50, ((a_50 + b_52).tdiv (2 : Int))), ⟨a_50, ((a_50 + b_52).tdiv (2 : Int)), rfl, hV.1, hr_51, hi_96.2, hS, ha.os⟩, hV.2⟩
 intro hc_128
 replace hV := hV.2 (ov hc_128)
 refine WC.exit (Wp ?_)
 refine Wp ?_
 refine WQ.hit (WQ.next ?_)
 replace hS := hS.drop
 refine WC.sr ?_
 iterate 3 refine R hS ?_
 refine WL.nx (WC.ret ?_)
 exact leave2 rfl rfl rfl (⟨a_50, false, hV, rfl, hr_51, hS⟩)
theorem S_rput {w0 : World} {H : View} {L : Seg} {w : World} {v_2 : Value} {l_1 : List RV} {fp_4 : Seg} {i_6 : Int} {v_8 : RV} {v_9 : Value} {v_10 : Value} {Q : (List RV) → Prop} (h_3 : OwnSl H cR 32 v_2 l_1 fp_4) (hr_7 : I64 i_6) (hr_11 : I64 v_8.k) (hr_12 : I64 v_8.i) (h_13 : IsSl H cR v_9 v_8.ks) (h_14 : IsSl H cR v_10 v_8.vs) (hS : St w0 H (fp_4 ++ L) w) (hV : V_rput l_1 i_6 v_8 Q) :
 Calls Tryz.prog 79 #[v_2, i6 i_6, .agg #[i6 v_8.k, i6 v_8.i, sv v_8.t, v_9, v_10]] w fun e w' => ∃ (r1 : List RV) (v1 : Value) (fp1 : Seg) (H' : View), Q r1 ∧ e = .returned (v1) ∧ View.le H H' ∧ OwnSl H' cR 32 v1 r1 fp1 ∧ St w0 H' (fp1 ++ L) w' := by
 unfold V_rput at hV
 refine enter func79 rfl ntmps79 rfl (lk_args_cons (d := 0) (v := v_2) rfl (lk_args_cons (d := 1) (v := i6 i_6) rfl (lk_args_cons (d := 2) (v := .agg #[i6 v_8.k, i6 v_8.i, sv v_8.t, v_9, v_10]) rfl (lk_args_nil _)))) (WC.sr (WL.box (arr := #[i6 v_8.k, i6 v_8.i, sv v_8.t, v_9, v_10]) rfl rfl rfl hS ?_))
 clear hS
 intro b_15 w hS
 refine R hS ?_
 refine WL.nx (WC.sr (R hS ?_))
 refine Rn hS (ex_build (vs := []) (zc := #[i6 0, i6 0, sv ([] : Str), ns, ns]) (cs := #[i6 0, i6 0, sv ([] : Str), ns, ns]) (places := #[(0, 1), (1, 1), (2, 1), (3, 1), (4, 1)]) underlying32 zeroValue32 (fun w => by simp [sizeOf2, sizeOf3, sizeOf30, sizeOf9]) rfl trivial rfl (by simp [Instr.fill, cells_int, cells_bool, cells_iface, cells_niliface, cells_slice, str_cells])) ?_
 refine WL.builds (c := cR) (xs := [(RV.mk 0 0 ([] : Str) ([] : List RV) ([] : List RV))]) (vs := [.agg #[i6 0, i6 0, sv ([] : Str), ns, ns]]) (css := [[i6 0, i6 0, sv ([] : Str), ns, ns]]) rfl underlying30 info32 rfl ⟨rfl, trivial⟩ rfl (by decide) rfl (by simp; rfl) ⟨[i6 0, i6 0, sv ([] : Str), ns, ns], _, rfl, (cR_rep.2 ⟨_, _, rfl, i0, i0, IsSl.nil, IsSl.nil⟩), rfl⟩ hS rfl (by decide) ?_
 clear hS
 intro v_21 w fp_22 h_23 hS
 obtain ⟨hr_24, hV⟩ := hV
 replace hS := hS.f3
 refine WL.append (c := cR) (xs := l_1) (ys := ([(RV.mk 0 0 ([] : Str) ([] : List RV) ([] : List RV))])) rfl underlying30 info32 rfl rfl rfl hS h_3 (h_23.src hS.f2) hr_24.1 hr_24.2 ?_
 clear hS
 intro v_25 w fp_26 h_27 hS
 refine R hS ?_
 refine WL.nx ?_
 replace hS := hS.f2.drop
 refine WC.seq (WC.sr (R hS ?_))
 have hl_29 : Len (l_1 ++ ([(RV.mk 0 0 ([] : Str) ([] : List RV) ([] : List RV))])) := h_27.bound
 replace hV := hV hl_29
 refine Rn hS (ex_len_own underlying30 rfl h_27) ?_
 obtain ⟨hi_31, hV⟩ := hV
 iterate 2 refine R hS ?_
 refine WL.nx (WC.block ?_)
 replace hS := hS.f2.f2
 obtain ⟨I_81, mu_82, hI_110, hV⟩ := hV
 refine WC.loop (σ := (List RV) × Int) (fun s a w => ∃ (l_54 : List RV) (k_58 : Int) (v_55 : Value) (fp_56 : Seg), s = (l_54, k_58) ∧ I_81 (l_54, k_58) ∧ OwnSl H cR 32 v_55 l_54 fp_56 ∧ I64 k_58 ∧ St w0 H (fp_56 ++ ([(b_15, oc #[i6 v_8.k, i6 v_8.i, sv v_8.t, v_9, v_10] 32)] ++ L)) w ∧ Fr 33 [(0, v_55), (1, i6 i_6), (5, (pq b_15)), (7, i6 k_58)] a) mu_82 ((l_1 ++ ([(RV.mk 0 0 ([] : Str) ([] : List RV) ([] : List RV))])), (((l_1 ++ ([(RV.mk 0 0 ([] : Str) ([] : List RV) ([] : List RV))])).length : Int) - (1 : Int))) ?_ ?_
 exact fun a ha => ⟨(l_1 ++ ([(RV.mk 0 0 ([] : Str) ([] : List RV) ([] : List RV))])), (((l_1 ++ ([(RV.mk 0 0 ([] : Str) ([] : List RV) ([] : List RV))])).length : Int) - (1 : Int)), v_25, fp_26, rfl, hI_110, h_27, hi_31, hS, ha.os⟩
 clear hS hI_110
 rintro _ a w ⟨l_54, k_58, v_55, fp_56, rfl, hI, h_57, hr_59, hS, ha⟩
 refine in_frame ha ?_
 clear ha
 replace hV := hV _ hI
 clear hI
 refine WC.seq (WC.sr ?_)
 iterate 3 refine R hS ?_
 refine WL.nx ?_
 refine Cd ?_ ?_
 intro hc_109
 replace hV := hV.1 (od hc_109)
 refine WC.skip (WQ.next (WC.seq (WC.block (WC.region ?_))))
 iterate 4 refine R hS ?_
 obtain ⟨hi_86, hV⟩ := hV
 refine R hS ?_
 obtain ⟨hin_87, hV⟩ := hV
 refine Rx hS (ex_index_own underlying30 sizeOf32 rfl rfl h_57 hin_87) ?_
 intro p_88 hp_89
 refine Rx hS (exNow (H := H) (L := [(b_15, oc #[i6 v_8.k, i6 v_8.i, sv v_8.t, v_9, v_10] 32)] ++ L) (ex_load_own_agg isAgg32 sizeOf32 rfl h_57 hp_89 hin_87)) ?_
 rintro u_90 ⟨_, rfl, hu⟩
 obtain ⟨v_91, v_92, rfl, hr_93, hr_94, h_95, h_96⟩ := cR_rep.1 hu
 replace hV := hV hr_93 hr_94
 obtain ⟨hin_97, hV⟩ := hV
 refine Rx hS (ex_index_own underlying30 sizeOf32 rfl rfl h_57 hin_97) ?_
 intro p_98 hp_99
 refine WL.store_own_agg (c := cR) (z := (ix l_54 (k_58 - (1 : Int)))) (m' := [i6 ((ix l_54 (k_58 - (1 : Int))).k), i6 ((ix l_54 (k_58 - (1 : Int))).i), sv ((ix l_54 (k_58 - (1 : Int))).t), v_91, v_92]) sizeOf32 rfl rfl rfl ⟨rfl, rfl, rfl, (IsSl.one h_95), (IsSl.one h_96), trivial⟩ (cR_rep.2 ⟨_, _, rfl, hr_93, hr_94, h_95, h_96⟩) hS h_57 hp_99 hin_97 ?_
 clear hS
 intro w fp_101 h_100 hS
 refine WL.nil (WQ.out nofun (WQ.next (Sb [(0, v_55), (1, i6 i_6), (5, (pq b_15)), (7, i6 k_58)] ?_)))
 refine WC.region (R hS ?_)
 obtain ⟨hi_103, hV⟩ := hV
 iterate 2 refine R hS ?_
 refine WL.nil ?_
 replace hS := hS.f2.f2
 exact Wt fun a ha => ⟨((l_54.set k_58.toNat (ix l_54 (k_58 - (1 : Int)))), (k_58 - (1 : Int))), ⟨(l_54.set k_58.toNat (ix l_54 (k_58 - (1 : Int)))), (k_58 - (1 : Int)), v_55, fp_101, rfl, hV.1, h_100, hi_103, hS, ha.os⟩, hV.2⟩
 intro hc_109
 replace hV := hV.2 (ov hc_109)
 refine WC.exit (Wp ?_)
 refine Wp ?_
 refine WQ.hit (WQ.next (WC.sr ?_))
 iterate 2 refine R hS ?_
 replace hS := hS.f2
 refine Rn hS (ex_load_box_agg (cs := [i6 v_8.k, i6 v_8.i, sv v_8.t, v_9, v_10]) isAgg32 sizeOf32 rfl rfl rfl) ?_
 obtain ⟨hin_104, hV⟩ := hV
 refine Rx hS (ex_index_own underlying30 sizeOf32 rfl rfl h_57 hin_104) ?_
 intro p_105 hp_106
 replace hS := hS.f2
 refine WL.store_own_agg (c := cR) (z := v_8) (m' := [i6 v_8.k, i6 v_8.i, sv v_8.t, v_9, v_10]) sizeOf32 rfl rfl rfl ⟨rfl, rfl, rfl, (IsSl.one h_13), (IsSl.one h_14), trivial⟩ (cR_rep.2 ⟨_, _, rfl, hr_11, hr_12, h_13, h_14⟩) hS h_57 hp_106 hin_104 ?_
 clear hS
 intro w fp_108 h_107 hS
 refine WL.nx (Sb [(0, v_55)] ?_)
 replace hS := hS.f2.drop
 refine WC.sr ?_
 iterate 2 refine R hS ?_
 refine WL.nx (WC.ret ?_)
 exact leave1 rfl rfl (⟨(l_54.set i_6.toNat v_8), v_55, fp_108, H, hV, rfl, (View.le.refl _), h_107, hS⟩)
theorem S_rSetOf {w0 : World} {H : View} {L : Seg} {w : World} {v_2 : Value} {l_1 : List RV} {Q : RV → Prop} (h_3 : IsSl H cR v_2 l_1) (hS : St w0 H (L) w) (hV : V_rSetOf l_1 Q) :
 Calls Tryz.prog 36 #[v_2] w fun e w' => ∃ (r1 : RV) (u1 : Value) (w1 : Value) (H' : View), Q r1 ∧ e = .returned (.agg #[i6 r1.k, i6 r1.i, sv r1.t, u1, w1]) ∧ View.le H H' ∧ I64 r1.k ∧ I64 r1.i ∧ IsSl H' cR u1 r1.ks ∧ IsSl H' cR w1 r1.vs ∧ St w0 H' (L) w' := by
 unfold V_rSetOf at hV
 refine enter func36 rfl ntmps36 rfl (lk_args_cons (d := 0) (v := v_2) rfl (lk_args_nil _)) (WC.sr (WL.alloc (arr := #[i6 0, i6 0, sv ([] : Str), ns, ns]) rfl zeroValue32 rfl hS ?_))
 clear hS
 intro b_4 w hS
 refine WL.nx (WC.sr (Rn hS (ex_build (vs := [i6 (5 : Int)]) (zc := #[i6 0, i6 0, sv ([] : Str), ns, ns]) (cs := #[i6 (5 : Int), i6 0, sv ([] : Str), ns, ns]) (places := #[(0, 1), (1, 1), (2, 1), (3, 1), (4, 1)]) underlying32 zeroValue32 (fun w => by simp [sizeOf2, sizeOf3, sizeOf30, sizeOf9]) rfl ⟨rfl, trivial⟩ rfl (by simp [Instr.fill, cells_int, cells_bool, cells_iface, cells_niliface, cells_slice, str_cells])) ?_))
 refine WL.alloc (arr := #[i6 0, i6 0, sv ([] : Str), ns, ns]) rfl zeroValue32 rfl hS ?_
 clear hS
 intro b_10 w hS
 refine St1 #[i6 (5 : Int), i6 0, sv ([] : Str), ns, ns] sizeOf32 hS ?_
 clear hS
 intro w hS
 refine WL.nx (WC.seq (WC.sr (R hS ?_)))
 refine WL.nx (WC.block ?_)
 replace hS := hS.nilseg
 replace hS := hS.f2.f3
 obtain ⟨I_493, mu_494, hI_669, hV⟩ := hV
 refine WC.loop (σ := (List RV) × Int) (fun s a w => ∃ (c_327 : List RV) (i_331 : Int) (H_324 : View) (v_328 : Value) (fp_329 : Seg), s = (c_327, i_331) ∧ I_493 (c_327, i_331) ∧ View.le H H_324 ∧ OwnSl H_324 cR 32 v_328 c_327 fp_329 ∧ I64 i_331 ∧ St w0 H_324 ([(b_4, Obj.cells #[i6 0, i6 0, sv ([] : Str), ns, ns] 32 (0, 0))] ++ ([(b_10, Obj.cells #[i6 (5 : Int), i6 0, sv ([] : Str), v_328, ns] 32 (0, 0))] ++ (fp_329 ++ L))) w ∧ Fr 37 [(0, v_2), (2, (pq b_4)), (3, (pq b_10)), (4, i6 i_331)] a) mu_494 (([] : List RV), (0 : Int)) ?_ ?_
 exact fun a ha => ⟨([] : List RV), (0 : Int), H, ns, ([] : Seg), rfl, hI_669, (View.le.refl _), OwnSl.nil, i0, hS, ha.os⟩
 clear hS hI_669
 rintro _ a w ⟨c_327, i_331, H_324, v_328, fp_329, rfl, hI, le_325, h_330, hr_332, hS, ha⟩
 refine in_frame ha ?_
 clear ha
 replace hV := hV _ hI
 clear hI
 refine WC.seq (WC.sr ?_)
 iterate 2 refine R hS ?_
 have hl_496 : Len l_1 := (h_3.mono le_325).bound
 replace hV := hV hl_496
 refine Rn hS (ex_len_sl underlying30 rfl (h_3.mono le_325)) ?_
 refine R hS ?_
 refine WL.nx ?_
 refine Cd ?_ ?_
 intro hc_668
 replace hV := hV.1 (od hc_668)
 refine WC.skip (WQ.next ?_)
 obtain ⟨J_578, hJ_579, hV⟩ := hV
 refine WC.meet (fun a w => ∃ (c_574 : List RV) (H_571 : View) (v_575 : Value) (fp_576 : Seg), J_578 c_574 ∧ View.le H_324 H_571 ∧ OwnSl H_571 cR 32 v_575 c_574 fp_576 ∧ St w0 H_571 ([(b_4, Obj.cells #[i6 0, i6 0, sv ([] : Str), ns, ns] 32 (0, 0))] ++ ([(b_10, Obj.cells #[i6 (5 : Int), i6 0, sv ([] : Str), v_575, ns] 32 (0, 0))] ++ (fp_576 ++ L))) w ∧ Fr 37 [(0, v_2), (2, (pq b_4)), (3, (pq b_10)), (4, i6 i_331)] a) ?_ ?_
 rintro a w ⟨c_574, H_571, v_575, fp_576, hI, le_572, h_577, hS, ha⟩
 refine in_frame ha ?_
 clear ha hV
 have hV := hJ_579 _ hI
 clear hI hJ_579
 refine WC.region (R hS ?_)
 obtain ⟨hi_654, hV⟩ := hV
 iterate 2 refine R hS ?_
 refine WL.nil ?_
 replace hS := hS.f3.f3.f3
 exact Wt fun a ha => ⟨(c_574, (i_331 + (1 : Int))), ⟨c_574, (i_331 + (1 : Int)), H_571, v_575, fp_576, rfl, hV.1, (((View.le.refl _).trans le_325).trans le_572), h_577, hi_654, hS, ha.os⟩, hV.2⟩
 clear hJ_579
 refine WC.block (WC.seq (WC.drawn (σ := [0, 1, 2, 3, 4, 5, 6, 7, 8, 9, 10, 11]) (C := St w0 H_324 ([(b_4, Obj.cells #[i6 0, i6 0, sv ([] : Str), ns, ns] 32 (0, 0))] ++ ([(b_10, Obj.cells #[i6 (5 : Int), i6 0, sv ([] : Str), v_328, ns] 32 (0, 0))] ++ (fp_329 ++ L)))) [[], [0], [], [], [2, 3], [2, 3, 4], [0, 1, 2, 3, 4, 5], [0, 1, 2, 3, 4, 5, 6], [0, 1, 2, 3, 4, 5, 6, 7], [0, 1, 2, 3, 4, 5, 6, 7], [0, 1, 2, 3, 4, 5, 6, 7, 8], [0, 1, 2, 3, 4, 5, 6, 7, 8, 9, 10]] [6] mixed (by kernel_rfl) (hS.drawn _) ?_))
 clear hS w
 refine Wd.run rfl rfl rfl rfl (fun _ => ex_fieldAddr (o' := 3) underlying32 rfl sizeOf30 rfl rfl) fun q_581 hq_580 => ?_
 refine Wd.runb (off := 3) rfl rfl rfl rfl (fun _ _ _ h => ex_load_box isAgg30 rfl h) rfl (fun _ h => St.f2 h) fun q_583 hq_582 => ?_
 refine Dm fun q_585 hq_584 => ?_
 refine Dm fun q_587 hq_586 => ?_
 obtain ⟨hin_590, hV⟩ := hV
 refine Wd.runx rfl rfl rfl rfl (exAll (ex_index underlying30 sizeOf32 rfl rfl (h_3.mono le_325) hin_590)) ?_
 intro p_591 hp_592
 intro q_589 hq_588
 refine Wd.runs (fp := ([] : Seg)) (L := [(b_4, Obj.cells #[i6 0, i6 0, sv ([] : Str), ns, ns] 32 (0, 0))] ++ ([(b_10, Obj.cells #[i6 (5 : Int), i6 0, sv ([] : Str), v_328, ns] 32 (0, 0))] ++ (fp_329 ++ L))) rfl rfl rfl rfl (ex_load_agg_s isAgg32 sizeOf32 rfl hp_592) (fun _ h => h) ?_
 rintro u_595 ⟨_, rfl, hu⟩
 obtain ⟨v_596, v_597, rfl, hr_598, hr_599, h_600, h_601⟩ := cR_rep.1 hu
 replace hV := hV hr_598 hr_599
 intro q_594 hq_593
 refine Wd.turn rfl rfl rfl fun w hS => ?_
 replace hS := hS.f3
 have hL_602 := hS.freeze
 refine Rc (enters0 (vs := [v_328, .agg #[i6 ((ix l_1 i_331).k), i6 ((ix l_1 i_331).i), sv ((ix l_1 i_331).t), v_596, v_597]]) call78 ⟨rfl, rfl, trivial⟩) (S_rplace (v_4 := (ix l_1 i_331)) (h_330.share hS.put_le) hr_598 hr_599 (by exact (h_600.mono hS.put_le)) (by exact (h_601.mono hS.put_le)) hL_602 hV) ?_
 clear hV
 rintro _ w ⟨r_603, r_605, hV, rfl, hr_604, hL_606⟩
 refine ⟨_, rfl, ?_⟩
 have hB_608 := hS.back hL_606
 replace hS := hB_608
 clear hL_606 hL_602 hB_608
 refine WL.nil (DQ.mk2 (C' := St w0 H_324 (fp_329 ++ ([(b_4, Obj.cells #[i6 0, i6 0, sv ([] : Str), ns, ns] 32 (0, 0))] ++ ([(b_10, Obj.cells #[i6 (5 : Int), i6 0, sv ([] : Str), v_328, ns] 32 (0, 0))] ++ L)))) hS ⟨il, il, il, il, il, il, trivial⟩ ?_)
 clear hS w
 refine Dm fun q_610 hq_609 => ?_
 refine Wd.run rfl rfl rfl rfl (fun _ => ex_extract rfl rfl) fun q_612 hq_611 => ?_
 refine Wd.run rfl rfl rfl rfl (fun _ => ex_extract rfl rfl) fun q_614 hq_613 => ?_
 refine Wd.run rfl rfl rfl rfl (fun _ => ex_assign rfl) fun q_616 hq_615 => ?_
 refine Wd.run rfl rfl rfl rfl (fun _ => ex_assign rfl) fun q_618 hq_617 => ?_
 refine Wd.nil fun w hS => ?_
 refine WQ.next (Sb [(0, v_2), (2, (pq b_4)), (3, (pq b_10)), (4, i6 i_331), (5, i6 r_603), (6, .bool r_605)] ?_)
 refine WC.sr ?_
 iterate 2 refine R hS ?_
 refine WL.nx ?_
 refine Cd ?_ ?_
 intro hc_652
 replace hV := hV.1 hc_652
 refine WC.drawn (σ := [0, 1, 2, 3, 4, 5, 6, 7, 8, 9]) (C := St w0 H_324 (fp_329 ++ ([(b_4, Obj.cells #[i6 0, i6 0, sv ([] : Str), ns, ns] 32 (0, 0))] ++ ([(b_10, Obj.cells #[i6 (5 : Int), i6 0, sv ([] : Str), v_328, ns] 32 (0, 0))] ++ L)))) [[], [0], [], [], [], [3, 4], [3, 4, 5], [0, 1, 2, 3, 4, 5, 6], [0, 1, 2, 3, 4, 5, 6, 7], [0, 1, 2, 3, 4, 5, 6, 7, 8]] [7, 9] mixed (by kernel_rfl) (hS.drawn _) ?_
 clear hS w
 refine Wd.run rfl rfl rfl rfl (fun _ => ex_fieldAddr (o' := 3) underlying32 rfl sizeOf30 rfl rfl) fun q_620 hq_619 => ?_
 refine Wd.runb (off := 3) rfl rfl rfl rfl (fun _ _ _ h => ex_load_box isAgg30 rfl h) rfl (fun _ h => St.f3 h) fun q_622 hq_621 => ?_
 refine Dm fun q_624 hq_623 => ?_
 refine Dm fun q_626 hq_625 => ?_
 refine Dm fun q_628 hq_627 => ?_
 obtain ⟨hin_631, hV⟩ := hV
 refine Wd.runx rfl rfl rfl rfl (exAll (ex_index underlying30 sizeOf32 rfl rfl (h_3.mono le_325) hin_631)) ?_
 intro p_632 hp_633
 intro q_630 hq_629
 refine Wd.runs (fp := ([] : Seg)) (L := fp_329 ++ ([(b_4, Obj.cells #[i6 0, i6 0, sv ([] : Str), ns, ns] 32 (0, 0))] ++ ([(b_10, Obj.cells #[i6 (5 : Int), i6 0, sv ([] : Str), v_328, ns] 32 (0, 0))] ++ L))) rfl rfl rfl rfl (ex_load_agg_s isAgg32 sizeOf32 rfl hp_633) (fun _ h => h) ?_
 rintro u_636 ⟨_, rfl, hu⟩
 obtain ⟨v_637, v_638, rfl, hr_639, hr_640, h_641, h_642⟩ := cR_rep.1 hu
 replace hV := hV hr_639 hr_640
 intro q_635 hq_634
 refine Wd.turn rfl rfl rfl fun w hS => ?_
 refine Rc (enters0 (vs := [v_328, i6 r_603, .agg #[i6 ((ix l_1 i_331).k), i6 ((ix l_1 i_331).i), sv ((ix l_1 i_331).t), v_637, v_638]]) call79 ⟨rfl, rfl, rfl, trivial⟩) (S_rput (v_8 := (ix l_1 i_331)) h_330 hr_604 hr_639 hr_640 h_641 h_642 hS hV) ?_
 clear hV hS
 rintro _ w ⟨r_643, v_644, fp_645, H_648, hV, rfl, le_649, h_646, hS⟩
 refine ⟨_, rfl, ?_⟩
 refine WL.nil (DQ.mk2 (C' := St w0 H_648 (fp_645 ++ ([(b_4, Obj.cells #[i6 0, i6 0, sv ([] : Str), ns, ns] 32 (0, 0))] ++ ([(b_10, Obj.cells #[i6 (5 : Int), i6 0, sv ([] : Str), v_328, ns] 32 (0, 0))] ++ L)))) hS ⟨il, il, il, il, il, il, il, trivial⟩ ?_)
 clear hS w
 refine Wd.run rfl rfl rfl rfl (fun _ => ex_fieldAddr (o' := 3) underlying32 rfl sizeOf30 rfl rfl) fun q_651 hq_650 => ?_
 refine Wd.turn rfl rfl rfl fun w hS => ?_
 replace hS := hS.f3
 refine St1 #[i6 (5 : Int), i6 0, sv ([] : Str), v_644, ns] sizeOf30 hS ?_ (cs := [v_644]) (hc := (congrArg Array.toList (cells_one (OwnSl.one h_646)))) (hone := ⟨(OwnSl.one h_646), trivial⟩)
 clear hS
 intro w hS
 refine WL.nil (DQ.mk2 (C' := St w0 H_648 ([(b_10, Obj.cells #[i6 (5 : Int), i6 0, sv ([] : Str), v_644, ns] 32 (0, 0))] ++ (fp_645 ++ ([(b_4, Obj.cells #[i6 0, i6 0, sv ([] : Str), ns, ns] 32 (0, 0))] ++ L)))) hS ⟨il, il, il, il, il, il, il, il, trivial⟩ ?_)
 clear hS w
 refine Wd.nil fun w hS => ?_
 refine WQ.out nofun ?_
 replace hS := hS.f2.f2.f3
 exact Wt fun a ha => ⟨r_643, H_648, v_644, fp_645, hV, ((View.le.refl _).trans le_649), h_646, hS, ha.os⟩
 intro hc_652
 replace hV := hV.2 hc_652
 refine WC.skip (WQ.out nofun ?_)
 replace hS := hS.f3.f3
 exact Wt fun a ha => ⟨c_327, H_324, v_328, fp_329, hV, (View.le.refl _), h_330, hS, ha.os⟩
 intro hc_668
 replace hV := hV.2 (ov hc_668)
 refine WC.exit (Wp ?_)
 refine Wp ?_
 refine WQ.hit (WQ.next (WC.sr ?_))
 replace hS := hS.f2
 refine Rn hS (ex_load_box_agg (cs := [i6 (5 : Int), i6 0, sv ([] : Str), v_328, ns]) isAgg32 sizeOf32 rfl rfl rfl) ?_
 replace hS := hS.f3
 obtain ⟨H_655, le_656, h_657, hS⟩ : ∃ K, View.le H_324 K ∧ IsSl K cR v_328 c_327 ∧ St w0 K ([(b_10, Obj.cells #[i6 (5 : Int), i6 0, sv ([] : Str), v_328, ns] 32 (0, 0))] ++ ([(b_4, Obj.cells #[i6 0, i6 0, sv ([] : Str), ns, ns] 32 (0, 0))] ++ L)) w := ⟨_, hS.put_le, h_330.share hS.put_le, hS.freeze⟩
 refine Rc (enters0 (vs := [.agg #[i6 (5 : Int), i6 0, sv ([] : Str), v_328, ns]]) call80 ⟨rfl, trivial⟩) (S_rLight (v_1 := (RV.mk (5 : Int) 0 ([] : Str) c_327 ([] : List RV))) (by exact (show I64 (5 : Int) by unfold I64; omega)) (by exact i0) h_657 (by exact IsSl.nil) hS hV) ?_
 clear hV hS
 rintro _ w ⟨r_658, v_659, v_660, H_665, hV, rfl, le_666, hr_661, hr_662, h_663, h_664, hS⟩
 refine ⟨_, rfl, ?_⟩
 replace hS := hS.f2
 refine St1 #[i6 r_658.k, i6 r_658.i, sv r_658.t, v_659, v_660] sizeOf32 hS ?_ (cs := [i6 r_658.k, i6 r_658.i, sv r_658.t, v_659, v_660]) (hone := ⟨rfl, rfl, rfl, (IsSl.one h_663), (IsSl.one h_664), trivial⟩)
 clear hS
 intro w hS
 refine WL.nx ?_
 replace hS := hS.f2.drop
 refine WC.ret ?_
 have hl_667 := load_own_agg (P := Tryz.prog) (cs := [i6 r_658.k, i6 r_658.i, sv r_658.t, v_659, v_660]) isAgg32 sizeOf32 hS rfl
 replace hS := hS.drop
 exact leavec1 (il) rfl rfl hl_667 (⟨r_658, v_659, v_660, H_665, hV, rfl, ((((View.le.refl _).trans le_325).trans le_656).trans le_666), hr_661, hr_662, h_663, h_664, hS⟩)
theorem S_rFunOf {w0 : World} {H : View} {L : Seg} {w : World} {v_2 : Value} {keys_1 : List RV} {v_5 : Value} {vals_4 : List RV} {Q : RV → Prop} (h_3 : IsSl H cR v_2 keys_1) (h_6 : IsSl H cR v_5 vals_4) (hS : St w0 H (L) w) (hV : V_rFunOf keys_1 vals_4 Q) :
 Calls Tryz.prog 71 #[v_2, v_5] w fun e w' => ∃ (r1 : RV) (u1 : Value) (w1 : Value) (H' : View), Q r1 ∧ e = .returned (.agg #[i6 r1.k, i6 r1.i, sv r1.t, u1, w1]) ∧ View.le H H' ∧ I64 r1.k ∧ I64 r1.i ∧ IsSl H' cR u1 r1.ks ∧ IsSl H' cR w1 r1.vs ∧ St w0 H' (L) w' := by
 unfold V_rFunOf at hV
 refine enter func71 rfl ntmps71 rfl (lk_args_cons (d := 0) (v := v_2) rfl (lk_args_cons (d := 1) (v := v_5) rfl (lk_args_nil _))) (WC.sr (WL.alloc (arr := #[i6 0, i6 0, sv ([] : Str), ns, ns]) rfl zeroValue32 rfl hS ?_))
 clear hS
 intro b_7 w hS
 refine WL.nx (WC.sr (Rn hS (ex_build (vs := [i6 (6 : Int)]) (zc := #[i6 0, i6 0, sv ([] : Str), ns, ns]) (cs := #[i6 (6 : Int), i6 0, sv ([] : Str), ns, ns]) (places := #[(0, 1), (1, 1), (2, 1), (3, 1), (4, 1)]) underlying32 zeroValue32 (fun w => by simp [sizeOf2, sizeOf3, sizeOf30, sizeOf9]) rfl ⟨rfl, trivial⟩ rfl (by simp [Instr.fill, cells_int, cells_bool, cells_iface, cells_niliface, cells_slice, str_cells])) ?_))
 refine WL.alloc (arr := #[i6 0, i6 0, sv ([] : Str), ns, ns]) rfl zeroValue32 rfl hS ?_
 clear hS
 intro b_13 w hS
 refine St1 #[i6 (6 : Int), i6 0, sv ([] : Str), ns, ns] sizeOf32 hS ?_
 clear hS
 intro w hS
 refine WL.nx (WC.seq (WC.sr (R hS ?_)))
 refine WL.nx (WC.block ?_)
 replace hS := hS.nilseg
 replace hS := hS.nilseg
 replace hS := hS.f2.f3.f4
 obtain ⟨I_714, mu_715, hI_964, hV⟩ := hV
 refine WC.loop (σ := (List RV) × (List RV) × Int) (fun s a w => ∃ (c_472 : List RV) (c_477 : List RV) (i_481 : Int) (H_469 : View) (v_473 : Value) (fp_474 : Seg) (v_478 : Value) (fp_479 : Seg), s = (c_472, c_477, i_481) ∧ I_714 (c_472, c_477, i_481) ∧ View.le H H_469 ∧ OwnSl H_469 cR 32 v_473 c_472 fp_474 ∧ OwnSl H_469 cR 32 v_478 c_477 fp_479 ∧ I64 i_481 ∧ St w0 H_469 ([(b_7, Obj.cells #[i6 0, i6 0, sv ([] : Str), ns, ns] 32 (0, 0))] ++ ([(b_13, Obj.cells #[i6 (6 : Int), i6 0, sv ([] : Str), v_473, v_478] 32 (0, 0))] ++ (fp_474 ++ (fp_479 ++ L)))) w ∧ Fr 48 [(0, v_2), (1, v_5), (4, (pq b_7)), (5, (pq b_13)), (6, i6 i_481)] a) mu_715 (([] : List RV), ([] : List RV), (0 : Int)) ?_ ?_
 exact fun a ha => ⟨([] : List RV), ([] : List RV), (0 : Int), H, ns, ([] : Seg), ns, ([] : Seg), rfl, hI_964, (View.le.refl _), OwnSl.nil, OwnSl.nil, i0, hS, ha.os⟩
 clear hS hI_964
 rintro _ a w ⟨c_472, c_477, i_481, H_469, v_473, fp_474, v_478, fp_479, rfl, hI, le_470, h_475, h_480, hr_482, hS, ha⟩
 refine in_frame ha ?_
 clear ha
 replace hV := hV _ hI
 clear hI
 refine WC.seq (WC.sr ?_)
 iterate 2 refine R hS ?_
 have hl_717 : Len keys_1 := (h_3.mono le_470).bound
 replace hV := hV hl_717
 refine Rn hS (ex_len_sl underlying30 rfl (h_3.mono le_470)) ?_
 refine R hS ?_
 refine WL.nx ?_
 refine Cd ?_ ?_
 intro hc_963
 replace hV := hV.1 (od hc_963)
 refine WC.skip (WQ.next ?_)
 obtain ⟨J_837, hJ_838, hV⟩ := hV
 refine WC.meet (fun a w => ∃ (c_828 : List RV) (c_833 : List RV) (H_825 : View) (v_829 : Value) (fp_830 : Seg) (v_834 : Value) (fp_835 : Seg), J_837 (c_828, c_833) ∧ View.le H_469 H_825 ∧ OwnSl H_825 cR 32 v_829 c_828 fp_830 ∧ OwnSl H_825 cR 32 v_834 c_833 fp_835 ∧ St w0 H_825 ([(b_7, Obj.cells #[i6 0, i6 0, sv ([] : Str), ns, ns] 32 (0, 0))] ++ ([(b_13, Obj.cells #[i6 (6 : Int), i6 0, sv ([] : Str), v_829, v_834] 32 (0, 0))] ++ (fp_830 ++ (fp_835 ++ L)))) w ∧ Fr 48 [(0, v_2), (1, v_5), (4, (pq b_7)), (5, (pq b_13)), (6, i6 i_481)] a) ?_ ?_
 rintro a w ⟨c_828, c_833, H_825, v_829, fp_830, v_834, fp_835, hI, le_826, h_831, h_836, hS, ha⟩
 refine in_frame ha ?_
 clear ha hV
 have hV := hJ_838 _ hI
 clear hI hJ_838
 refine WC.region (R hS ?_)
 obtain ⟨hi_946, hV⟩ := hV
 iterate 2 refine R hS ?_
 refine WL.nil ?_
 replace hS := hS.f4.f4.f4.f4
 exact Wt fun a ha => ⟨(c_828, c_833, (i_481 + (1 : Int))), ⟨c_828, c_833, (i_481 + (1 : Int)), H_825, v_829, fp_830, v_834, fp_835, rfl, hV.1, (((View.le.refl _).trans le_470).trans le_826), h_831, h_836, hi_946, hS, ha.os⟩, hV.2⟩
 clear hJ_838
 refine WC.block (WC.seq (WC.drawn (σ := [0, 1, 2, 3, 4, 5, 6, 7, 8, 9, 10, 11]) (C := St w0 H_469 ([(b_7, Obj.cells #[i6 0, i6 0, sv ([] : Str), ns, ns] 32 (0, 0))] ++ ([(b_13, Obj.cells #[i6 (6 : Int), i6 0, sv ([] : Str), v_473, v_478] 32 (0, 0))] ++ (fp_474 ++ (fp_479 ++ L))))) [[], [0], [], [], [2, 3], [2, 3, 4], [0, 1, 2, 3, 4, 5], [0, 1, 2, 3, 4, 5, 6], [0, 1, 2, 3, 4, 5, 6, 7], [0, 1, 2, 3, 4, 5, 6, 7], [0, 1, 2, 3, 4, 5, 6, 7, 8], [0, 1, 2, 3, 4, 5, 6, 7, 8, 9, 10]] [6] mixed (by kernel_rfl) (hS.drawn _) ?_))
 clear hS w
 refine Wd.run rfl rfl rfl rfl (fun _ => ex_fieldAddr (o' := 3) underlying32 rfl sizeOf30 rfl rfl) fun q_840 hq_839 => ?_
 refine Wd.runb (off := 3) rfl rfl rfl rfl (fun _ _ _ h => ex_load_box isAgg30 rfl h) rfl (fun _ h => St.f2 h) fun q_842 hq_841 => ?_
 refine Dm fun q_844 hq_843 => ?_
 refine Dm fun q_846 hq_845 => ?_
 obtain ⟨hin_849, hV⟩ := hV
 refine Wd.runx rfl rfl rfl rfl (exAll (ex_index underlying30 sizeOf32 rfl rfl (h_3.mono le_470) hin_849)) ?_
 intro p_850 hp_851
 intro q_848 hq_847
 refine Wd.runs (fp := ([] : Seg)) (L := [(b_7, Obj.cells #[i6 0, i6 0, sv ([] : Str), ns, ns] 32 (0, 0))] ++ ([(b_13, Obj.cells #[i6 (6 : Int), i6 0, sv ([] : Str), v_473, v_478] 32 (0, 0))] ++ (fp_474 ++ (fp_479 ++ L)))) rfl rfl rfl rfl (ex_load_agg_s isAgg32 sizeOf32 rfl hp_851) (fun _ h => h) ?_
 rintro u_854 ⟨_, rfl, hu⟩
 obtain ⟨v_855, v_856, rfl, hr_857, hr_858, h_859, h_860⟩ := cR_rep.1 hu
 replace hV := hV hr_857 hr_858
 intro q_853 hq_852
 refine Wd.turn rfl rfl rfl fun w hS => ?_
 replace hS := hS.f3
 have hL_861 := hS.freeze
 refine Rc (enters0 (vs := [v_473, .agg #[i6 ((ix keys_1 i_481).k), i6 ((ix keys_1 i_481).i), sv ((ix keys_1 i_481).t), v_855, v_856]]) call78 ⟨rfl, rfl, trivial⟩) (S_rplace (v_4 := (ix keys_1 i_481)) (h_475.share hS.put_le) hr_857 hr_858 (by exact (h_859.mono hS.put_le)) (by exact (h_860.mono hS.put_le)) hL_861 hV) ?_
 clear hV
 rintro _ w ⟨r_862, r_864, hV, rfl, hr_863, hL_865⟩
 refine ⟨_, rfl, ?_⟩
 have hB_867 := hS.back hL_865
 replace hS := hB_867
 clear hL_865 hL_861 hB_867
 refine WL.nil (DQ.mk2 (C' := St w0 H_469 (fp_474 ++ ([(b_7, Obj.cells #[i6 0, i6 0, sv ([] : Str), ns, ns] 32 (0, 0))] ++ ([(b_13, Obj.cells #[i6 (6 : Int), i6 0, sv ([] : Str), v_473, v_478] 32 (0, 0))] ++ (fp_479 ++ L))))) hS ⟨il, il, il, il, il, il, trivial⟩ ?_)
 clear hS w
 refine Dm fun q_869 hq_868 => ?_
 refine Wd.run rfl rfl rfl rfl (fun _ => ex_extract rfl rfl) fun q_871 hq_870 => ?_
 refine Wd.run rfl rfl rfl rfl (fun _ => ex_extract rfl rfl) fun q_873 hq_872 => ?_
 refine Wd.run rfl rfl rfl rfl (fun _ => ex_assign rfl) fun q_875 hq_874 => ?_
 refine Wd.run rfl rfl rfl rfl (fun _ => ex_assign rfl) fun q_877 hq_876 => ?_
 refine Wd.nil fun w hS => ?_
 refine WQ.next (Sb [(0, v_2), (1, v_5), (4, (pq b_7)), (5, (pq b_13)), (6, i6 i_481), (7, i6 r_862), (8, .bool r_864)] ?_)
 refine WC.sr ?_
 iterate 2 refine R hS ?_
 refine WL.nx ?_
 refine Cd ?_ ?_
 intro hc_944
 replace hV := hV.1 hc_944
 refine WC.seq (WC.drawn (σ := [0, 1, 2, 3, 4, 5, 6, 7, 8, 9]) (C := St w0 H_469 (fp_474 ++ ([(b_7, Obj.cells #[i6 0, i6 0, sv ([] : Str), ns, ns] 32 (0, 0))] ++ ([(b_13, Obj.cells #[i6 (6 : Int), i6 0, sv ([] : Str), v_473, v_478] 32 (0, 0))] ++ (fp_479 ++ L))))) [[], [0], [], [], [], [3, 4], [3, 4, 5], [0, 1, 2, 3, 4, 5, 6], [0, 1, 2, 3, 4, 5, 6, 7], [0, 1, 2, 3, 4, 5, 6, 7, 8]] [7, 9] mixed (by kernel_rfl) (hS.drawn _) ?_)
 clear hS w
 refine Wd.run rfl rfl rfl rfl (fun _ => ex_fieldAddr (o' := 3) underlying32 rfl sizeOf30 rfl rfl) fun q_879 hq_878 => ?_
 refine Wd.runb (off := 3) rfl rfl rfl rfl (fun _ _ _ h => ex_load_box isAgg30 rfl h) rfl (fun _ h => St.f3 h) fun q_881 hq_880 => ?_
 refine Dm fun q_883 hq_882 => ?_
 refine Dm fun q_885 hq_884 => ?_
 refine Dm fun q_887 hq_886 => ?_
 obtain ⟨hin_890, hV⟩ := hV
 refine Wd.runx rfl rfl rfl rfl (exAll (ex_index underlying30 sizeOf32 rfl rfl (h_3.mono le_470) hin_890)) ?_
 intro p_891 hp_892
 intro q_889 hq_888
 refine Wd.runs (fp := ([] : Seg)) (L := fp_474 ++ ([(b_7, Obj.cells #[i6 0, i6 0, sv ([] : Str), ns, ns] 32 (0, 0))] ++ ([(b_13, Obj.cells #[i6 (6 : Int), i6 0, sv ([] : Str), v_473, v_478] 32 (0, 0))] ++ (fp_479 ++ L)))) rfl rfl rfl rfl (ex_load_agg_s isAgg32 sizeOf32 rfl hp_892) (fun _ h => h) ?_
 rintro u_895 ⟨_, rfl, hu⟩
 obtain ⟨v_896, v_897, rfl, hr_898, hr_899, h_900, h_901⟩ := cR_rep.1 hu
 replace hV := hV hr_898 hr_899
 intro q_894 hq_893
 refine Wd.turn rfl rfl rfl fun w hS => ?_
 refine Rc (enters0 (vs := [v_473, i6 r_862, .agg #[i6 ((ix keys_1 i_481).k), i6 ((ix keys_1 i_481).i), sv ((ix keys_1 i_481).t), v_896, v_897]]) call79 ⟨rfl, rfl, rfl, trivial⟩) (S_rput (v_8 := (ix keys_1 i_481)) h_475 hr_863 hr_898 hr_899 h_900 h_901 hS hV) ?_
 clear hV hS
 rintro _ w ⟨r_902, v_903, fp_904, H_907, hV, rfl, le_908, h_905, hS⟩
 refine ⟨_, rfl, ?_⟩
 refine WL.nil (DQ.mk2 (C' := St w0 H_907 (fp_904 ++ ([(b_7, Obj.cells #[i6 0, i6 0, sv ([] : Str), ns, ns] 32 (0, 0))] ++ ([(b_13, Obj.cells #[i6 (6 : Int), i6 0, sv ([] : Str), v_473, v_478] 32 (0, 0))] ++ (fp_479 ++ L))))) hS ⟨il, il, il, il, il, il, il, trivial⟩ ?_)
 clear hS w
 refine Wd.run rfl rfl rfl rfl (fun _ => ex_fieldAddr (o' := 3) underlying32 rfl sizeOf30 rfl rfl) fun q_910 hq_909 => ?_
 refine Wd.turn rfl rfl rfl fun w hS => ?_
 replace hS := hS.f3
 refine St1 #[i6 (6 : Int), i6 0, sv ([] : Str), v_903, v_478] sizeOf30 hS ?_ (cs := [v_903]) (hc := (congrArg Array.toList (cells_one (OwnSl.one h_905)))) (hone := ⟨(OwnSl.one h_905), trivial⟩)
 clear hS
 intro w hS
 refine WL.nil (DQ.mk2 (C' := St w0 H_907 ([(b_13, Obj.cells #[i6 (6 : Int), i6 0, sv ([] : Str), v_903, v_478] 32 (0, 0))] ++ (fp_904 ++ ([(b_7, Obj.cells #[i6 0, i6 0, sv ([] : Str), ns, ns] 32 (0, 0))] ++ (fp_479 ++ L))))) hS ⟨il, il, il, il, il, il, il, il, trivial⟩ ?_)
 clear hS w
 refine Wd.nil fun w hS => ?_
 refine WQ.next (Sb [(0, v_2), (1, v_5), (4, (pq b_7)), (5, (pq b_13)), (6, i6 i_481), (7, i6 r_862)] ?_)
 refine WC.drawn (σ := [0, 1, 2, 3, 4, 5, 6, 7, 8, 9]) (C := St w0 H_907 ([(b_13, Obj.cells #[i6 (6 : Int), i6 0, sv ([] : Str), v_903, v_478] 32 (0, 0))] ++ (fp_904 ++ ([(b_7, Obj.cells #[i6 0, i6 0, sv ([] : Str), ns, ns] 32 (0, 0))] ++ (fp_479 ++ L))))) [[], [0], [], [], [], [3, 4], [3, 4, 5], [0, 1, 2, 3, 4, 5, 6], [0, 1, 2, 3, 4, 5, 6, 7], [0, 1, 2, 3, 4, 5, 6, 7, 8]] [7, 9] mixed (by kernel_rfl) (hS.drawn _) ?_
 clear hS w
 refine Wd.run rfl rfl rfl rfl (fun _ => ex_fieldAddr (o' := 4) underlying32 rfl sizeOf30 rfl rfl) fun q_912 hq_911 => ?_
 refine Wd.runb (off := 4) rfl rfl rfl rfl (fun _ _ _ h => ex_load_box isAgg30 rfl h) rfl (fun _ h => h) fun q_914 hq_913 => ?_
 refine Dm fun q_916 hq_915 => ?_
 refine Dm fun q_918 hq_917 => ?_
 refine Dm fun q_920 hq_919 => ?_
 obtain ⟨hin_923, hV⟩ := hV
 refine Wd.runx rfl rfl rfl rfl (exAll (ex_index underlying30 sizeOf32 rfl rfl ((h_6.mono le_470).mono le_908) hin_923)) ?_
 intro p_924 hp_925
 intro q_922 hq_921
 refine Wd.runs (fp := ([] : Seg)) (L := [(b_13, Obj.cells #[i6 (6 : Int), i6 0, sv ([] : Str), v_903, v_478] 32 (0, 0))] ++ (fp_904 ++ ([(b_7, Obj.cells #[i6 0, i6 0, sv ([] : Str), ns, ns] 32 (0, 0))] ++ (fp_479 ++ L)))) rfl rfl rfl rfl (ex_load_agg_s isAgg32 sizeOf32 rfl hp_925) (fun _ h => h) ?_
 rintro u_928 ⟨_, rfl, hu⟩
 obtain ⟨v_929, v_930, rfl, hr_931, hr_932, h_933, h_934⟩ := cR_rep.1 hu
 replace hV := hV hr_931 hr_932
 intro q_927 hq_926
 refine Wd.turn rfl rfl rfl fun w hS => ?_
 replace hS := hS.f4
 refine Rc (enters0 (vs := [v_478, i6 r_862, .agg #[i6 ((ix vals_4 i_481).k), i6 ((ix vals_4 i_481).i), sv ((ix vals_4 i_481).t), v_929, v_930]]) call79 ⟨rfl, rfl, rfl, trivial⟩) (S_rput (v_8 := (ix vals_4 i_481)) (h_480.mono le_908) hr_863 hr_931 hr_932 h_933 h_934 hS hV) ?_
 clear hV hS
 rintro _ w ⟨r_935, v_936, fp_937, H_940, hV, rfl, le_941, h_938, hS⟩
 refine ⟨_, rfl, ?_⟩
 refine WL.nil (DQ.mk2 (C' := St w0 H_940 (fp_937 ++ ([(b_13, Obj.cells #[i6 (6 : Int), i6 0, sv ([] : Str), v_903, v_478] 32 (0, 0))] ++ (fp_904 ++ ([(b_7, Obj.cells #[i6 0, i6 0, sv ([] : Str), ns, ns] 32 (0, 0))] ++ L))))) hS ⟨il, il, il, il, il, il, il, trivial⟩ ?_)
 clear hS w
 refine Wd.run rfl rfl rfl rfl (fun _ => ex_fieldAddr (o' := 4) underlying32 rfl sizeOf30 rfl rfl) fun q_943 hq_942 => ?_
 refine Wd.turn rfl rfl rfl fun w hS => ?_
 replace hS := hS.f2
 refine St1 #[i6 (6 : Int), i6 0, sv ([] : Str), v_903, v_936] sizeOf30 hS ?_ (cs := [v_936]) (hc := (congrArg Array.toList (cells_one (OwnSl.one h_938)))) (hone := ⟨(OwnSl.one h_938), trivial⟩)
 clear hS
 intro w hS
 refine WL.nil (DQ.mk2 (C' := St w0 H_940 ([(b_13, Obj.cells #[i6 (6 : Int), i6 0, sv ([] : Str), v_903, v_936] 32 (0, 0))] ++ (fp_937 ++ (fp_904 ++ ([(b_7, Obj.cells #[i6 0, i6 0, sv ([] : Str), ns, ns] 32 (0, 0))] ++ L))))) hS ⟨il, il, il, il, il, il, il, il, trivial⟩ ?_)
 clear hS w
 refine Wd.nil fun w hS => ?_
 refine WQ.out nofun ?_
 replace hS := hS.f2.f3.f3.f4
 exact Wt fun a ha => ⟨r_902, r_935, H_940, v_903, fp_904, v_936, fp_937, hV, (((View.le.refl _).trans le_908).trans le_941), (h_905.mono le_941), h_938, hS, ha.os⟩
 intro hc_944
 replace hV := hV.2 hc_944
 refine WC.skip (WQ.out nofun ?_)
 replace hS := hS.f4.f2.f4.f4
 exact Wt fun a ha => ⟨c_472, c_477, H_469, v_473, fp_474, v_478, fp_479, hV, (View.le.refl _), h_475, h_480, hS, ha.os⟩
 intro hc_963
 replace hV := hV.2 (ov hc_963)
 refine WC.exit (Wp ?_)
 refine Wp ?_
 refine WQ.hit (WQ.next (WC.sr ?_))
 replace hS := hS.f2
 refine Rn hS (ex_load_box_agg (cs := [i6 (6 : Int), i6 0, sv ([] : Str), v_473, v_478]) isAgg32 sizeOf32 rfl rfl rfl) ?_
 replace hS := hS.f3
 obtain ⟨H_947, le_948, h_949, hS⟩ : ∃ K, View.le H_469 K ∧ IsSl K cR v_473 c_472 ∧ St w0 K ([(b_13, Obj.cells #[i6 (6 : Int), i6 0, sv ([] : Str), v_473, v_478] 32 (0, 0))] ++ ([(b_7, Obj.cells #[i6 0, i6 0, sv ([] : Str), ns, ns] 32 (0, 0))] ++ (fp_479 ++ L))) w := ⟨_, hS.put_le, h_475.share hS.put_le, hS.freeze⟩
 replace hS := hS.f3
 obtain ⟨H_950, le_951, h_952, hS⟩ : ∃ K, View.le H_947 K ∧ IsSl K cR v_478 c_477 ∧ St w0 K ([(b_13, Obj.cells #[i6 (6 : Int), i6 0, sv ([] : Str), v_473, v_478] 32 (0, 0))] ++ ([(b_7, Obj.cells #[i6 0, i6 0, sv ([] : Str), ns, ns] 32 (0, 0))] ++ L)) w := ⟨_, hS.put_le, (h_480.mono le_948).share hS.put_le, hS.freeze⟩
 refine Rc (enters0 (vs := [.agg #[i6 (6 : Int), i6 0, sv ([] : Str), v_473, v_478]]) call80 ⟨rfl, trivial⟩) (S_rLight (v_1 := (RV.mk (6 : Int) 0 ([] : Str) c_472 c_477)) (by exact (show I64 (6 : Int) by unfold I64; omega)) (by exact i0) (by exact (h_949.mono le_951)) h_952 hS hV) ?_
 clear hV hS
 rintro _ w ⟨r_953, v_954, v_955, H_960, hV, rfl, le_961, hr_956, hr_957, h_958, h_959, hS⟩
 refine ⟨_, rfl, ?_⟩
 replace hS := hS.f2
 refine St1 #[i6 r_953.k, i6 r_953.i, sv r_953.t, v_954, v_955] sizeOf32 hS ?_ (cs := [i6 r_953.k, i6 r_953.i, sv r_953.t, v_954, v_955]) (hone := ⟨rfl, rfl, rfl, (IsSl.one h_958), (IsSl.one h_959), trivial⟩)
 clear hS
 intro w hS
 refine WL.nx (Sb [(4, (pq b_7))] ?_)
 replace hS := hS.f2.drop
 refine WC.ret ?_
 have hl_962 := load_own_agg (P := Tryz.prog) (cs := [i6 r_953.k, i6 r_953.i, sv r_953.t, v_954, v_955]) isAgg32 sizeOf32 hS rfl
 replace hS := hS.drop
 exact leavec1 (il) rfl rfl hl_962 (⟨r_953, v_954, v_955, H_960, hV, rfl, (((((View.le.refl _).trans le_470).trans le_948).trans le_951).trans le_961), hr_956, hr_957, h_958, h_959, hS⟩)
theorem S_rSeqOf {w0 : World} {H : View} {L : Seg} {w : World} {v_2 : Value} {l_1 : List RV} {Q : RV → Prop} (h_3 : IsSl H cR v_2 l_1) (hS : St w0 H (L) w) (hV : V_rSeqOf l_1 Q) :
 Calls Tryz.prog 37 #[v_2] w fun e w' => ∃ (r1 : RV) (u1 : Value) (w1 : Value) (H' : View), Q r1 ∧ e = .returned (.agg #[i6 r1.k, i6 r1.i, sv r1.t, u1, w1]) ∧ View.le H H' ∧ I64 r1.k ∧ I64 r1.i ∧ IsSl H' cR u1 r1.ks ∧ IsSl H' cR w1 r1.vs ∧ St w0 H' (L) w' := by
 unfold V_rSeqOf at hV
 refine enter func37 rfl ntmps37 rfl (lk_args_cons (d := 0) (v := v_2) rfl (lk_args_nil _)) (WC.sr (WL.alloc (arr := #[i6 0, i6 0, sv ([] : Str), ns, ns]) rfl zeroValue32 rfl hS ?_))
 clear hS
 intro b_4 w hS
 refine WL.nx (WC.sr (Rn hS (ex_build (vs := [i6 (6 : Int)]) (zc := #[i6 0, i6 0, sv ([] : Str), ns, ns]) (cs := #[i6 (6 : Int), i6 0, sv ([] : Str), ns, ns]) (places := #[(0, 1), (1, 1), (2, 1), (3, 1), (4, 1)]) underlying32 zeroValue32 (fun w => by simp [sizeOf2, sizeOf3, sizeOf30, sizeOf9]) rfl ⟨rfl, trivial⟩ rfl (by simp [Instr.fill, cells_int, cells_bool, cells_iface, cells_niliface, cells_slice, str_cells])) ?_))
 refine WL.alloc (arr := #[i6 0, i6 0, sv ([] : Str), ns, ns]) rfl zeroValue32 rfl hS ?_
 clear hS
 intro b_10 w hS
 refine St1 #[i6 (6 : Int), i6 0, sv ([] : Str), ns, ns] sizeOf32 hS ?_
 clear hS
 intro w hS
 refine WL.nx (WC.seq (WC.sr (R hS ?_)))
 refine WL.nx (WC.block ?_)
 replace hS := hS.nilseg
 replace hS := hS.nilseg
 replace hS := hS.f2.f3.f4
 obtain ⟨I_216, mu_217, hI_297, hV⟩ := hV
 refine WC.loop (σ := (List RV) × (List RV) × Int) (fun s a w => ∃ (c_143 : List RV) (c_148 : List RV) (i_152 : Int) (H_140 : View) (v_144 : Value) (fp_145 : Seg) (v_149 : Value) (fp_150 : Seg), s = (c_143, c_148, i_152) ∧ I_216 (c_143, c_148, i_152) ∧ View.le H H_140 ∧ OwnSl H_140 cR 32 v_144 c_143 fp_145 ∧ OwnSl H_140 cR 32 v_149 c_148 fp_150 ∧ I64 i_152 ∧ St w0 H_140 ([(b_4, Obj.cells #[i6 0, i6 0, sv ([] : Str), ns, ns] 32 (0, 0))] ++ ([(b_10, Obj.cells #[i6 (6 : Int), i6 0, sv ([] : Str), v_144, v_149] 32 (0, 0))] ++ (fp_145 ++ (fp_150 ++ L)))) w ∧ Fr 33 [(0, v_2), (2, (pq b_4)), (3, (pq b_10)), (4, i6 i_152)] a) mu_217 (([] : List RV), ([] : List RV), (0 : Int)) ?_ ?_
 exact fun a ha => ⟨([] : List RV), ([] : List RV), (0 : Int), H, ns, ([] : Seg), ns, ([] : Seg), rfl, hI_297, (View.le.refl _), OwnSl.nil, OwnSl.nil, i0, hS, ha.os⟩
 clear hS hI_297
 rintro _ a w ⟨c_143, c_148, i_152, H_140, v_144, fp_145, v_149, fp_150, rfl, hI, le_141, h_146, h_151, hr_153, hS, ha⟩
 refine in_frame ha ?_
 clear ha
 replace hV := hV _ hI
 clear hI
 refine WC.seq (WC.sr ?_)
 iterate 2 refine R hS ?_
 have hl_219 : Len l_1 := (h_3.mono le_141).bound
 replace hV := hV hl_219
 refine Rn hS (ex_len_sl underlying30 rfl (h_3.mono le_141)) ?_
 refine R hS ?_
 refine WL.nx ?_
 refine Cd ?_ ?_
 intro hc_296
 replace hV := hV.1 (od hc_296)
 refine WC.skip (WQ.next (WC.seq (WC.block (WC.sr (R hS ?_)))))
 obtain ⟨hi_222, hV⟩ := hV
 refine R hS ?_
 refine Rc (enters0 (vs := [i6 (i_152 + (1 : Int))]) call81 ⟨rfl, trivial⟩) (S_rNumber hi_222 hS hV) ?_
 clear hV hS
 rintro _ w ⟨r_223, v_224, v_225, H_230, hV, rfl, le_231, hr_226, hr_227, h_228, h_229, hS⟩
 refine ⟨_, rfl, ?_⟩
 refine WL.alloc (arr := #[i6 0, i6 0, sv ([] : Str), ns, ns]) rfl zeroValue32 rfl hS ?_
 clear hS
 intro b_232 w hS
 refine St1 #[i6 r_223.k, i6 r_223.i, sv r_223.t, v_224, v_225] sizeOf32 hS ?_ (cs := [i6 r_223.k, i6 r_223.i, sv r_223.t, v_224, v_225]) (hone := ⟨rfl, rfl, rfl, (IsSl.one h_228), (IsSl.one h_229), trivial⟩)
 clear hS
 intro w hS
 refine WL.nx (WC.sr (R hS ?_))
 replace hS := hS.f3
 refine R hS ?_
 replace hS := hS.f2
 refine Rn hS (ex_load_box_agg (cs := [i6 r_223.k, i6 r_223.i, sv r_223.t, v_224, v_225]) isAgg32 sizeOf32 rfl rfl rfl) ?_
 refine WL.builds (c := cR) (xs := [r_223]) (vs := [.agg #[i6 r_223.k, i6 r_223.i, sv r_223.t, v_224, v_225]]) (css := [[i6 r_223.k, i6 r_223.i, sv r_223.t, v_224, v_225]]) rfl underlying30 info32 rfl ⟨rfl, trivial⟩ rfl (by decide) rfl (by simp; rfl) ⟨[i6 r_223.k, i6 r_223.i, sv r_223.t, v_224, v_225], _, rfl, (cR_rep.2 ⟨_, _, rfl, hr_226, hr_227, h_228, h_229⟩), rfl⟩ hS rfl (by decide) ?_
 clear hS
 intro v_237 w fp_238 h_239 hS
 obtain ⟨hr_240, hV⟩ := hV
 replace hS := hS.f5
 refine WL.append (c := cR) (xs := c_143) (ys := ([r_223])) rfl underlying30 info32 rfl rfl rfl hS (h_146.mono le_231) (h_239.src hS.f2) hr_240.1 hr_240.2 ?_
 clear hS
 intro v_241 w fp_242 h_243 hS
 refine R hS ?_
 replace hS := hS.f4
 refine St1 #[i6 (6 : Int), i6 0, sv ([] : Str), v_241, v_149] sizeOf30 hS ?_ (cs := [v_241]) (hc := (congrArg Array.toList (cells_one (OwnSl.one h_243)))) (hone := ⟨(OwnSl.one h_243), trivial⟩)
 clear hS
 intro w hS
 refine WL.nx (Sb [(0, v_2), (2, (pq b_4)), (3, (pq b_10)), (4, i6 i_152)] ?_)
 replace hS := hS.f4.drop
 replace hS := hS.f3.drop
 refine WC.drawn (σ := [0, 1, 2, 3, 4, 5, 6, 7, 8, 9]) (C := St w0 H_230 ([(b_10, Obj.cells #[i6 (6 : Int), i6 0, sv ([] : Str), v_241, v_149] 32 (0, 0))] ++ (fp_242 ++ ([(b_4, Obj.cells #[i6 0, i6 0, sv ([] : Str), ns, ns] 32 (0, 0))] ++ (fp_150 ++ L))))) [[], [0], [], [], [2, 3], [2, 3, 4], [2, 3, 4, 5], [0, 1, 2, 3, 4, 5, 6], [0, 1, 2, 3, 4, 5, 6, 7], [0, 1, 2, 3, 4, 5, 6, 7, 8]] [6, 7, 9] mixed (by kernel_rfl) (hS.drawn _) ?_
 clear hS w
 refine Wd.run rfl rfl rfl rfl (fun _ => ex_fieldAddr (o' := 4) underlying32 rfl sizeOf30 rfl rfl) fun q_246 hq_245 => ?_
 refine Wd.runb (off := 4) rfl rfl rfl rfl (fun _ _ _ h => ex_load_box isAgg30 rfl h) rfl (fun _ h => h) fun q_248 hq_247 => ?_
 refine Dm fun q_250 hq_249 => ?_
 refine Dm fun q_252 hq_251 => ?_
 obtain ⟨hin_255, hV⟩ := hV
 refine Wd.runx rfl rfl rfl rfl (exAll (ex_index underlying30 sizeOf32 rfl rfl ((h_3.mono le_141).mono le_231) hin_255)) ?_
 intro p_256 hp_257
 intro q_254 hq_253
 refine Wd.runs (fp := ([] : Seg)) (L := [(b_10, Obj.cells #[i6 (6 : Int), i6 0, sv ([] : Str), v_241, v_149] 32 (0, 0))] ++ (fp_242 ++ ([(b_4, Obj.cells #[i6 0, i6 0, sv ([] : Str), ns, ns] 32 (0, 0))] ++ (fp_150 ++ L)))) rfl rfl rfl rfl (ex_load_agg_s isAgg32 sizeOf32 rfl hp_257) (fun _ h => h) ?_
 rintro u_260 ⟨_, rfl, hu⟩
 obtain ⟨v_261, v_262, rfl, hr_263, hr_264, h_265, h_266⟩ := cR_rep.1 hu
 replace hV := hV hr_263 hr_264
 intro q_259 hq_258
 refine Wd.turn rfl rfl rfl fun w hS => ?_
 refine WL.builds (c := cR) (xs := [(ix l_1 i_152)]) (vs := [.agg #[i6 ((ix l_1 i_152).k), i6 ((ix l_1 i_152).i), sv ((ix l_1 i_152).t), v_261, v_262]]) (css := [[i6 ((ix l_1 i_152).k), i6 ((ix l_1 i_152).i), sv ((ix l_1 i_152).t), v_261, v_262]]) rfl underlying30 info32 rfl ⟨rfl, trivial⟩ rfl (by decide) rfl (by simp; rfl) ⟨[i6 ((ix l_1 i_152).k), i6 ((ix l_1 i_152).i), sv ((ix l_1 i_152).t), v_261, v_262], _, rfl, (cR_rep.2 ⟨_, _, rfl, hr_263, hr_264, h_265, h_266⟩), rfl⟩ hS rfl (by decide) ?_
 clear hS
 intro v_268 w fp_269 h_270 hS
 refine WL.nil (DQ.mk2 (C' := St w0 H_230 (fp_269 ++ ([(b_10, Obj.cells #[i6 (6 : Int), i6 0, sv ([] : Str), v_241, v_149] 32 (0, 0))] ++ (fp_242 ++ ([(b_4, Obj.cells #[i6 0, i6 0, sv ([] : Str), ns, ns] 32 (0, 0))] ++ (fp_150 ++ L)))))) hS ⟨il, il, il, il, .inr (hq_247 H_230 (fp_269 ++ (fp_242 ++ ([(b_4, Obj.cells #[i6 0, i6 0, sv ([] : Str), ns, ns] 32 (0, 0))] ++ (fp_150 ++ L)))) #[i6 (6 : Int), i6 0, sv ([] : Str), v_241, v_149] _ rfl (fun _ h => St.f2 h)), .inr (hq_245 _), trivial⟩ ?_)
 clear hS w
 refine Wd.turn rfl rfl rfl fun w hS => ?_
 obtain ⟨hr_271, hV⟩ := hV
 replace hS := hS.f5
 refine WL.append (c := cR) (xs := c_148) (ys := ([(ix l_1 i_152)])) rfl underlying30 info32 rfl rfl rfl hS (h_151.mono le_231) (h_270.src hS.f2) hr_271.1 hr_271.2 ?_
 clear hS
 intro v_272 w fp_273 h_274 hS
 refine WL.nil (DQ.mk2 (C' := St w0 H_230 (fp_273 ++ (fp_269 ++ ([(b_10, Obj.cells #[i6 (6 : Int), i6 0, sv ([] : Str), v_241, v_149] 32 (0, 0))] ++ (fp_242 ++ ([(b_4, Obj.cells #[i6 0, i6 0, sv ([] : Str), ns, ns] 32 (0, 0))] ++ L)))))) hS ⟨il, il, il, il, il, il, trivial⟩ ?_)
 clear hS w
 refine Wd.run rfl rfl rfl rfl (fun _ => ex_fieldAddr (o' := 4) underlying32 rfl sizeOf30 rfl rfl) fun q_277 hq_276 => ?_
 refine Wd.turn rfl rfl rfl fun w hS => ?_
 replace hS := hS.f3
 refine St1 #[i6 (6 : Int), i6 0, sv ([] : Str), v_241, v_272] sizeOf30 hS ?_ (cs := [v_272]) (hc := (congrArg Array.toList (cells_one (OwnSl.one h_274)))) (hone := ⟨(OwnSl.one h_274), trivial⟩)
 clear hS
 intro w hS
 refine WL.nil (DQ.mk2 (C' := St w0 H_230 ([(b_10, Obj.cells #[i6 (6 : Int), i6 0, sv ([] : Str), v_241, v_272] 32 (0, 0))] ++ (fp_273 ++ (fp_269 ++ (fp_242 ++ ([(b_4, Obj.cells #[i6 0, i6 0, sv ([] : Str), ns, ns] 32 (0, 0))] ++ L)))))) hS ⟨il, il, il, il, il, il, il, trivial⟩ ?_)
 clear hS w
 refine Wd.nil fun w hS => ?_
 refine WQ.out nofun (WQ.next ?_)
 replace hS := hS.f3.drop
 refine WC.region (R hS ?_)
 obtain ⟨hi_279, hV⟩ := hV
 iterate 2 refine R hS ?_
 refine WL.nil ?_
 replace hS := hS.f2.f3.f3.f4
 exact Wt fun a ha => ⟨((c_143 ++ ([r_223])), (c_148 ++ ([(ix l_1 i_152)])), (i_152 + (1 : Int))), ⟨(c_143 ++ ([r_223])), (c_148 ++ ([(ix l_1 i_152)])), (i_152 + (1 : Int)), H_230, v_241, fp_242, v_272, fp_273, rfl, hV.1, (((View.le.refl _).trans le_141).trans le_231), h_243, h_274, hi_279, hS, ha.os⟩, hV.2⟩
 intro hc_296
 replace hV := hV.2 (ov hc_296)
 refine WC.exit (Wp ?_)
 refine Wp ?_
 refine WQ.hit (WQ.next (WC.sr ?_))
 replace hS := hS.f2
 refine Rn hS (ex_load_box_agg (cs := [i6 (6 : Int), i6 0, sv ([] : Str), v_144, v_149]) isAgg32 sizeOf32 rfl rfl rfl) ?_
 replace hS := hS.f3
 obtain ⟨H_280, le_281, h_282, hS⟩ : ∃ K, View.le H_140 K ∧ IsSl K cR v_144 c_143 ∧ St w0 K ([(b_10, Obj.cells #[i6 (6 : Int), i6 0, sv ([] : Str), v_144, v_149] 32 (0, 0))] ++ ([(b_4, Obj.cells #[i6 0, i6 0, sv ([] : Str), ns, ns] 32 (0, 0))] ++ (fp_150 ++ L))) w := ⟨_, hS.put_le, h_146.share hS.put_le, hS.freeze⟩
 replace hS := hS.f3
 obtain ⟨H_283, le_284, h_285, hS⟩ : ∃ K, View.le H_280 K ∧ IsSl K cR v_149 c_148 ∧ St w0 K ([(b_10, Obj.cells #[i6 (6 : Int), i6 0, sv ([] : Str), v_144, v_149] 32 (0, 0))] ++ ([(b_4, Obj.cells #[i6 0, i6 0, sv ([] : Str), ns, ns] 32 (0, 0))] ++ L)) w := ⟨_, hS.put_le, (h_151.mono le_281).share hS.put_le, hS.freeze⟩
 refine Rc (enters0 (vs := [.agg #[i6 (6 : Int), i6 0, sv ([] : Str), v_144, v_149]]) call80 ⟨rfl, trivial⟩) (S_rLight (v_1 := (RV.mk (6 : Int) 0 ([] : Str) c_143 c_148)) (by exact (show I64 (6 : Int) by unfold I64; omega)) (by exact i0) (by exact (h_282.mono le_284)) h_285 hS hV) ?_
 clear hV hS
 rintro _ w ⟨r_286, v_287, v_288, H_293, hV, rfl, le_294, hr_289, hr_290, h_291, h_292, hS⟩
 refine ⟨_, rfl, ?_⟩
 replace hS := hS.f2
 refine St1 #[i6 r_286.k, i6 r_286.i, sv r_286.t, v_287, v_288] sizeOf32 hS ?_ (cs := [i6 r_286.k, i6 r_286.i, sv r_286.t, v_287, v_288]) (hone := ⟨rfl, rfl, rfl, (IsSl.one h_291), (IsSl.one h_292), trivial⟩)
 clear hS
 intro w hS
 refine WL.nx ?_
 replace hS := hS.f2.drop
 refine WC.ret ?_
 have hl_295 := load_own_agg (P := Tryz.prog) (cs := [i6 r_286.k, i6 r_286.i, sv r_286.t, v_287, v_288]) isAgg32 sizeOf32 hS rfl
 replace hS := hS.drop
 exact leavec1 (il) rfl rfl hl_295 (⟨r_286, v_287, v_288, H_293, hV, rfl, (((((View.le.refl _).trans le_141).trans le_281).trans le_284).trans le_294), hr_289, hr_290, h_291, h_292, hS⟩)
theorem S_rSeq {w0 : World} {H : View} {L : Seg} {w : World} {v_1 : RV} {v_2 : Value} {v_3 : Value} {Q : Bool → Prop} (hr_4 : I64 v_1.k) (hr_5 : I64 v_1.i) (h_6 : IsSl H cR v_2 v_1.ks) (h_7 : IsSl H cR v_3 v_1.vs) (hS : St w0 H (L) w) (hV : V_rSeq v_1 Q) :
 Calls Tryz.prog 33 #[.agg #[i6 v_1.k, i6 v_1.i, sv v_1.t, v_2, v_3]] w fun e w' => ∃ (r1 : Bool), Q r1 ∧ e = .returned (.bool r1) ∧ St w0 H (L) w' := by
 unfold V_rSeq at hV
 refine enter func33 rfl ntmps33 rfl (lk_args_cons (d := 0) (v := .agg #[i6 v_1.k, i6 v_1.i, sv v_1.t, v_2, v_3]) rfl (lk_args_nil _)) (WC.sr (WL.box (arr := #[i6 v_1.k, i6 v_1.i, sv v_1.t, v_2, v_3]) rfl rfl rfl hS ?_))
 clear hS
 intro b_8 w hS
 refine R hS ?_
 refine WL.nx (WC.seq (WC.sr (R hS ?_)))
 refine WL.nx (WC.block ?_)
 obtain ⟨I_130, mu_131, hI_193, hV⟩ := hV
 refine WC.loop (σ := Int) (fun s a w => ∃ (i_69 : Int), s = i_69 ∧ I_130 i_69 ∧ I64 i_69 ∧ St w0 H ([(b_8, oc #[i6 v_1.k, i6 v_1.i, sv v_1.t, v_2, v_3] 32)] ++ L) w ∧ Fr 32 [(1, (pq b_8)), (3, i6 i_69)] a) mu_131 (0 : Int) ?_ ?_
 exact fun a ha => ⟨(0 : Int), rfl, hI_193, i0, hS, ha.os⟩
 clear hS hI_193
 rintro i_69 a w ⟨_, rfl, hI, hr_70, hS, ha⟩
 refine in_frame ha ?_
 clear ha
 replace hV := hV _ hI
 clear hI
 refine WC.seq (WC.sr ?_)
 iterate 3 refine R hS ?_
 have hl_133 : Len v_1.ks := h_6.bound
 replace hV := hV hl_133
 refine Rn hS (ex_len_sl underlying30 rfl h_6) ?_
 refine R hS ?_
 refine WL.nx ?_
 refine Cd ?_ ?_
 intro hc_192
 replace hV := hV.1 (od hc_192)
 refine WC.skip (WQ.next (WC.seq (WC.block ?_)))
 obtain ⟨J_161, hJ_162, hV⟩ := hV
 refine WC.meet (fun a w => ∃ (x_160 : Bool), J_161 x_160 ∧ St w0 H ([(b_8, oc #[i6 v_1.k, i6 v_1.i, sv v_1.t, v_2, v_3] 32)] ++ L) w ∧ Fr 32 [(1, (pq b_8)), (3, i6 i_69), (28, .bool x_160)] a) ?_ ?_
 rintro a w ⟨x_160, hI, hS, ha⟩
 refine in_frame ha ?_
 clear ha hV
 have hV := hJ_162 _ hI
 clear hI hJ_162
 refine Cd ?_ ?_
 intro hc_190
 replace hV := hV.1 hc_190
 refine WC.sr (R hS ?_)
 refine WL.nx ?_
 replace hS := hS.drop
 refine WC.ret (WQ.out nofun (Wp ?_))
 refine Wp ?_
 refine WQ.out nofun (Wp ?_)
 exact leave1 rfl rfl (⟨false, hV, rfl, hS⟩)
 intro hc_190
 replace hV := hV.2 hc_190
 refine WC.skip (WQ.out nofun (WQ.next (WC.region (R hS ?_))))
 obtain ⟨hi_189, hV⟩ := hV
 iterate 2 refine R hS ?_
 refine WL.nil ?_
 exact Wt fun a ha => ⟨(i_69 + (1 : Int)), ⟨(i_69 + (1 : Int)), rfl, hV.1, hi_189, hS, ha.os⟩, hV.2⟩
 clear hJ_162
 refine WC.region ?_
 iterate 3 refine R hS ?_
 obtain ⟨hin_163, hV⟩ := hV
 refine Rx hS (ex_index underlying30 sizeOf32 rfl rfl h_6 hin_163) ?_
 intro p_164 hp_165
 refine Rx hS (ex_rv_k underlying32 rfl sizeOf3 rfl rfl hp_165) ?_
 intro p_166 hp_167
 refine Rx hS (ex_load isAgg3 rfl rfl hp_167) ?_
 intro u_170 hu_171
 obtain ⟨rfl, hr_172⟩ := cInt_rep hu_171
 replace hr_172 := has_I64 hr_172
 replace hV := hV hr_172
 iterate 2 refine R hS ?_
 rcases bft (decide (((ix v_1.ks i_69).k) ≠ (2 : Int))) with hg_174 | hg_174
 replace hV := hV.1 (od hg_174)
 iterate 10 refine R hS ?_
 refine WL.nil ?_
 exact Wt fun a ha => ⟨true, hV, hS, ha.os⟩
 replace hV := hV.2 (ov hg_174)
 iterate 3 refine R hS ?_
 refine Ug hg_174 ?_
 obtain ⟨hin_175, hV⟩ := hV
 refine Rx hS (ex_index underlying30 sizeOf32 rfl rfl h_6 hin_175) ?_
 intro p_176 hp_177
 refine Ug hg_174 ?_
 refine Rx hS (ex_rv_i underlying32 rfl sizeOf2 rfl rfl hp_177) ?_
 intro p_178 hp_179
 refine Ug hg_174 ?_
 refine Rx hS (ex_load isAgg2 rfl rfl hp_179) ?_
 intro u_182 hu_183
 obtain ⟨rfl, hr_184⟩ := cInt_rep hu_183
 replace hr_184 := has_I64 hr_184
 replace hV := hV hr_184
 refine R hS ?_
 refine Ug hg_174 ?_
 obtain ⟨hi_186, hV⟩ := hV
 iterate 3 refine R hS ?_
 refine WL.nil ?_
 exact Wt fun a ha => ⟨decide (((ix v_1.ks i_69).i) ≠ (i_69 + (1 : Int))), hV, hS, ha.os⟩
 intro hc_192
 replace hV := hV.2 (ov hc_192)
 refine WC.exit (Wp ?_)
 refine Wp ?_
 refine WQ.hit (WQ.next (WC.sr ?_))
 iterate 4 refine R hS ?_
 refine WL.nx (Sb [(2, .bool (decide (v_1.k = (6 : Int))))] ?_)
 replace hS := hS.drop
 refine WC.ret ?_
 exact leave1 rfl rfl (⟨decide (v_1.k = (6 : Int)), hV, rfl, hS⟩)
theorem S_rDigits {w0 : World} {H : View} {L : Seg} {w : World} {n_1 : Int} {Q : Str → Prop} (hr_2 : I64 n_1) (hS : St w0 H (L) w) (hV : V_rDigits n_1 Q) :
 Calls Tryz.prog 31 #[i6 n_1] w fun e w' => ∃ (r1 : Str), Q r1 ∧ e = .returned (sv r1) ∧ St w0 H (L) w' := by
 unfold V_rDigits at hV
 refine enter func31 rfl ntmps31 rfl (lk_args_cons (d := 0) (v := i6 n_1) rfl (lk_args_nil _)) (WC.sr (R hS ?_))
 refine WL.nx (WC.sr ?_)
 iterate 3 refine R hS ?_
 refine WL.nx ?_
 obtain ⟨J_7, hJ_8, hV⟩ := hV
 refine WC.meet (fun a w => ∃ (u_5 : Int), J_7 u_5 ∧ IntKind.u64.has u_5 ∧ St w0 H (L) w ∧ Fr 35 [(0, i6 n_1), (3, .int .u64 u_5)] a) ?_ ?_
 rintro a w ⟨u_5, hI, hr_6, hS, ha⟩
 refine in_frame ha ?_
 clear ha hV
 have hV := hJ_8 _ hI
 clear hI hJ_8
 refine WC.sr (R hS ?_)
 refine WL.nx (WC.seq (WC.block ?_))
 obtain ⟨I_30, mu_31, hI_49, hV⟩ := hV
 refine WC.loop (σ := Int × Str) (fun s a w => ∃ (u_19 : Int) (s_21 : Str), s = (u_19, s_21) ∧ I_30 (u_19, s_21) ∧ IntKind.u64.has u_19 ∧ St w0 H (L) w ∧ Fr 35 [(0, i6 n_1), (3, .int .u64 u_19), (4, sv s_21)] a) mu_31 (u_5, ([] : Str)) ?_ ?_
 exact fun a ha => ⟨u_5, ([] : Str), rfl, hI_49, hr_6, hS, ha.os⟩
 clear hS hI_49
 rintro _ a w ⟨u_19, s_21, rfl, hI, hr_20, hS, ha⟩
 refine in_frame ha ?_
 clear ha
 replace hV := hV _ hI
 clear hI
 refine WC.seq (WC.sr ?_)
 iterate 2 refine R hS ?_
 refine WL.nx ?_
 refine Cd ?_ ?_
 intro hc_48
 replace hV := hV.1 (od hc_48)
 refine WC.skip (WQ.next (WC.block (WC.sr (R hS ?_))))
 obtain ⟨hi_33, hV⟩ := hV
 refine Rn hS (ex_urem rfl rfl hr_20 hi_33) ?_
 refine Rn hS (ex_wrap_add rfl rfl) ?_
 refine R hS ?_
 refine WL.build1 (c := cB8) (y := u8 (IntKind.u8.wrap (IntKind.u64.wrap ((48 : Int) + (u_19.tmod (10 : Int)))))) rfl underlying71 info5 rfl rfl (cB8_mk (wrap_has _ _)) hS ?_
 clear hS
 intro v_35 w fp_36 h_37 hS
 refine Rn hS (ex_conv_own (L := L) underlying71 underlying5 underlying9 rfl h_37) ?_
 refine R hS ?_
 obtain ⟨hi_38, hV⟩ := hV
 iterate 2 refine R hS ?_
 refine WL.nx (Sb [(0, i6 n_1), (3, .int .u64 u_19), (4, sv (([u8 (IntKind.u8.wrap (IntKind.u64.wrap ((48 : Int) + (u_19.tmod (10 : Int)))))]) ++ s_21))] ?_)
 replace hS := hS.drop
 refine WC.region (R hS ?_)
 obtain ⟨hi_39, hV⟩ := hV
 refine Rn hS (ex_uquo rfl rfl hr_20 hi_39) ?_
 refine R hS ?_
 refine WL.nil (WQ.out nofun ?_)
 exact Wt fun a ha => ⟨((u_19.tdiv (10 : Int)), (([u8 (IntKind.u8.wrap (IntKind.u64.wrap ((48 : Int) + (u_19.tmod (10 : Int)))))]) ++ s_21)), ⟨(u_19.tdiv (10 : Int)), (([u8 (IntKind.u8.wrap (IntKind.u64.wrap ((48 : Int) + (u_19.tmod (10 : Int)))))]) ++ s_21), rfl, hV.1, (tdiv_has hr_20 hi_39), hS, ha.os⟩, hV.2⟩
 intro hc_48
 replace hV := hV.2 (ov hc_48)
 refine WC.exit (Wp ?_)
 refine Wp ?_
 refine WQ.hit (WQ.next (WC.sr (R hS ?_)))
 refine Rn hS (ex_wrap_add rfl rfl) ?_
 refine R hS ?_
 refine WL.build1 (c := cB8) (y := u8 (IntKind.u8.wrap (IntKind.u64.wrap ((48 : Int) + u_19)))) rfl underlying71 info5 rfl rfl (cB8_mk (wrap_has _ _)) hS ?_
 clear hS
 intro v_41 w fp_42 h_43 hS
 refine Rn hS (ex_conv_own (L := L) underlying71 underlying5 underlying9 rfl h_43) ?_
 refine R hS ?_
 obtain ⟨hi_44, hV⟩ := hV
 iterate 2 refine R hS ?_
 refine WL.nx (Sb [(0, i6 n_1), (4, sv (([u8 (IntKind.u8.wrap (IntKind.u64.wrap ((48 : Int) + u_19)))]) ++ s_21))] ?_)
 replace hS := hS.drop
 refine WC.seq (WC.sr ?_)
 iterate 2 refine R hS ?_
 refine WL.nx ?_
 refine Cd ?_ ?_
 intro hc_47
 replace hV := hV.1 (od hc_47)
 refine WC.sr (R hS ?_)
 obtain ⟨hi_46, hV⟩ := hV
 iterate 2 refine R hS ?_
 refine WL.nx (WC.ret (Wp ?_))
 exact leave1 rfl rfl (⟨(([45] : Str) ++ (([u8 (IntKind.u8.wrap (IntKind.u64.wrap ((48 : Int) + u_19)))]) ++ s_21)), hV, rfl, hS⟩)
 intro hc_47
 replace hV := hV.2 (ov hc_47)
 refine WC.skip (WQ.next (WC.sr ?_))
 iterate 2 refine R hS ?_
 refine WL.nx (WC.ret ?_)
 exact leave1 rfl rfl (⟨(([u8 (IntKind.u8.wrap (IntKind.u64.wrap ((48 : Int) + u_19)))]) ++ s_21), hV, rfl, hS⟩)
 clear hJ_8
 refine WC.sr ?_
 iterate 2 refine R hS ?_
 refine WL.nx ?_
 refine Cd ?_ ?_
 intro hc_10
 replace hV := hV.1 (od hc_10)
 refine WC.region (R hS ?_)
 refine Rn hS (ex_wrap_neg rfl) ?_
 refine R hS ?_
 refine WL.nil ?_
 exact Wt fun a ha => ⟨(IntKind.u64.wrap (-(IntKind.u64.wrap n_1))), hV, (wrap_has _ _), hS, ha.os⟩
 intro hc_10
 replace hV := hV.2 (ov hc_10)
 refine WC.skip ?_
 exact Wt fun a ha => ⟨(IntKind.u64.wrap n_1), hV, (wrap_has _ _), hS, ha.os⟩
def H_rShow (G : RV → (Str → Prop) → Prop) : Prop := ∀ {w0 : World} {H : View} {L : Seg} {w : World} {v_1 : RV} {v_2 : Value} {v_3 : Value} {Q : Str → Prop} (hr_4 : I64 v_1.k) (hr_5 : I64 v_1.i) (h_6 : IsSl H cR v_2 v_1.ks) (h_7 : IsSl H cR v_3 v_1.vs) (hS : St w0 H (L) w) (hV : G v_1 Q), Calls Tryz.prog 12 #[.agg #[i6 v_1.k, i6 v_1.i, sv v_1.t, v_2, v_3]] w fun e w' => ∃ (r1 : Str), Q r1 ∧ e = .returned (sv r1) ∧ St w0 H (L) w'
theorem S_rshown {G : RV → (Str → Prop) → Prop} (hG : H_rShow G) {w0 : World} {H : View} {L : Seg} {w : World} {v_2 : Value} {l_1 : List RV} {Q : Str → Prop} (h_3 : IsSl H cR v_2 l_1) (hS : St w0 H (L) w) (hV : V_rshown G l_1 Q) :
 Calls Tryz.prog 32 #[v_2] w fun e w' => ∃ (r1 : Str), Q r1 ∧ e = .returned (sv r1) ∧ St w0 H (L) w' := by
 unfold V_rshown at hV
 refine enter func32 rfl ntmps32 rfl (lk_args_cons (d := 0) (v := v_2) rfl (lk_args_nil _)) (WC.sr (R hS ?_))
 refine WL.nx (WC.sr (R hS ?_))
 refine WL.nx (WC.seq (WC.sr (R hS ?_)))
 refine WL.nx (WC.block ?_)
 obtain ⟨I_61, mu_62, hI_91, hV⟩ := hV
 refine WC.loop (σ := Str × Int) (fun s a w => ∃ (s_31 : Str) (i_32 : Int), s = (s_31, i_32) ∧ I_61 (s_31, i_32) ∧ I64 i_32 ∧ St w0 H (L) w ∧ Fr 25 [(0, v_2), (3, sv s_31), (4, i6 i_32)] a) mu_62 (([] : Str), (0 : Int)) ?_ ?_
 exact fun a ha => ⟨([] : Str), (0 : Int), rfl, hI_91, i0, hS, ha.os⟩
 clear hS hI_91
 rintro _ a w ⟨s_31, i_32, rfl, hI, hr_33, hS, ha⟩
 refine in_frame ha ?_
 clear ha
 replace hV := hV _ hI
 clear hI
 refine WC.seq (WC.sr ?_)
 iterate 2 refine R hS ?_
 have hl_64 : Len l_1 := h_3.bound
 replace hV := hV hl_64
 refine Rn hS (ex_len_sl underlying30 rfl h_3) ?_
 refine R hS ?_
 refine WL.nx ?_
 refine Cd ?_ ?_
 intro hc_90
 replace hV := hV.1 (od hc_90)
 refine WC.skip (WQ.next (WC.seq (WC.block ?_)))
 obtain ⟨J_70, hJ_71, hV⟩ := hV
 refine WC.meet (fun a w => ∃ (s_69 : Str), J_70 s_69 ∧ St w0 H (L) w ∧ Fr 25 [(0, v_2), (3, sv s_69), (4, i6 i_32)] a) ?_ ?_
 rintro a w ⟨s_69, hI, hS, ha⟩
 refine in_frame ha ?_
 clear ha hV
 have hV := hJ_71 _ hI
 clear hI hJ_71
 refine WC.sr ?_
 iterate 2 refine R hS ?_
 obtain ⟨hin_75, hV⟩ := hV
 refine Rx hS (ex_index underlying30 sizeOf32 rfl rfl h_3 hin_75) ?_
 intro p_76 hp_77
 refine Rx hS (ex_load_agg isAgg32 sizeOf32 rfl hp_77) ?_
 rintro u_78 ⟨_, rfl, hu⟩
 obtain ⟨v_79, v_80, rfl, hr_81, hr_82, h_83, h_84⟩ := cR_rep.1 hu
 replace hV := hV hr_81 hr_82
 refine Rc (enters0 (vs := [.agg #[i6 ((ix l_1 i_32).k), i6 ((ix l_1 i_32).i), sv ((ix l_1 i_32).t), v_79, v_80]]) call12 ⟨rfl, trivial⟩) (hG (v_1 := (ix l_1 i_32)) hr_81 hr_82 h_83 h_84 hS hV) ?_
 clear hV hS
 rintro _ w ⟨r_85, hV, rfl, hS⟩
 refine ⟨_, rfl, ?_⟩
 refine R hS ?_
 refine WL.nx (WC.region ?_)
 iterate 2 refine R hS ?_
 obtain ⟨hi_87, hV⟩ := hV
 iterate 2 refine R hS ?_
 refine WL.nil (WQ.out nofun (WQ.next (WC.region (R hS ?_))))
 obtain ⟨hi_89, hV⟩ := hV
 iterate 2 refine R hS ?_
 refine WL.nil ?_
 exact Wt fun a ha => ⟨((s_69 ++ r_85), (i_32 + (1 : Int))), ⟨(s_69 ++ r_85), (i_32 + (1 : Int)), rfl, hV.1, hi_89, hS, ha.os⟩, hV.2⟩
 clear hJ_71
 refine WC.sr ?_
 iterate 2 refine R hS ?_
 refine WL.nx ?_
 refine Cd ?_ ?_
 intro hc_74
 replace hV := hV.1 (od hc_74)
 refine WC.region (R hS ?_)
 obtain ⟨hi_73, hV⟩ := hV
 iterate 2 refine R hS ?_
 refine WL.nil ?_
 exact Wt fun a ha => ⟨(s_31 ++ ([44, 32] : Str)), hV, hS, ha.os⟩
 intro hc_74
 replace hV := hV.2 (ov hc_74)
 refine WC.skip ?_
 exact Wt fun a ha => ⟨s_31, hV, hS, ha.os⟩
 intro hc_90
 replace hV := hV.2 (ov hc_90)
 refine WC.exit (Wp ?_)
 refine Wp ?_
 refine WQ.hit (WQ.next (WC.sr ?_))
 iterate 2 refine R hS ?_
 refine WL.nx (WC.ret ?_)
 exact leave1 rfl rfl (⟨s_31, hV, rfl, hS⟩)
theorem S_rShow (m0 : Nat) : ∀ {w0 : World} {H : View} {L : Seg} {w : World} {v_1 : RV} {v_2 : Value} {v_3 : Value} {Q : Str → Prop} (hr_4 : I64 v_1.k) (hr_5 : I64 v_1.i) (h_6 : IsSl H cR v_2 v_1.ks) (h_7 : IsSl H cR v_3 v_1.vs) (hS : St w0 H (L) w) (hV : V_rShow m0 v_1 Q),
 Calls Tryz.prog 12 #[.agg #[i6 v_1.k, i6 v_1.i, sv v_1.t, v_2, v_3]] w fun e w' => ∃ (r1 : Str), Q r1 ∧ e = .returned (sv r1) ∧ St w0 H (L) w' := by
 induction m0 with
 | zero => intro w0 H L w v_1 v_2 v_3 Q hr_4 hr_5 h_6 h_7 hS hV; exact hV.elim
 | succ m0 ih =>
  intro w0 H L w v_1 v_2 v_3 Q hr_4 hr_5 h_6 h_7 hS hV
  unfold V_rShow at hV
  refine enter func12 rfl ntmps12 rfl (lk_args_cons (d := 0) (v := .agg #[i6 v_1.k, i6 v_1.i, sv v_1.t, v_2, v_3]) rfl (lk_args_nil _)) (WC.sr (WL.box (arr := #[i6 v_1.k, i6 v_1.i, sv v_1.t, v_2, v_3]) rfl rfl rfl hS ?_))
  clear hS
  intro b_8 w hS
  refine R hS ?_
  refine WL.nx (WC.seq (WC.sr ?_))
  iterate 2 refine R hS ?_
  refine WL.nx (WC.block (WC.sr ?_))
  iterate 2 refine R hS ?_
  refine WL.nx ?_
  refine Cd ?_ ?_
  intro hc_170
  replace hV := hV.1 (od hc_170)
  refine WC.seq (WC.sr ?_)
  iterate 3 refine R hS ?_
  refine WL.nx ?_
  replace hS := hS.drop
  refine Cd ?_ ?_
  intro hc_12
  replace hV := hV.1 (od hc_12)
  refine WC.sr (R hS ?_)
  refine WL.nx (Sb [(2, sv ([116, 114, 117, 101] : Str))] ?_)
  refine WC.ret (Wp ?_)
  refine WQ.out nofun (Wp ?_)
  exact leave1 rfl rfl (⟨([116, 114, 117, 101] : Str), hV, rfl, hS⟩)
  intro hc_12
  replace hV := hV.2 (ov hc_12)
  refine WC.skip (WQ.next (WC.sub (m := []) trivial (WC.sr (R hS ?_))))
  refine WL.nx (WC.ret (WQ.out nofun (Wp ?_)))
  exact leave1 rfl rfl (⟨([102, 97, 108, 115, 101] : Str), hV, rfl, hS⟩)
  intro hc_170
  replace hV := hV.2 (ov hc_170)
  refine WC.sr ?_
  iterate 2 refine R hS ?_
  refine WL.nx ?_
  refine Cd ?_ ?_
  intro hc_169
  replace hV := hV.1 (od hc_169)
  refine WC.sr ?_
  iterate 2 refine R hS ?_
  refine Rc (enters0 (vs := [i6 v_1.i]) call31 ⟨rfl, trivial⟩) (S_rDigits hr_5 hS hV) ?_
  clear hV hS
  rintro _ w ⟨r_14, hV, rfl, hS⟩
  refine ⟨_, rfl, ?_⟩
  refine R hS ?_
  refine WL.nx (Sb [(2, sv r_14)] ?_)
  replace hS := hS.drop
  refine WC.ret (WQ.out nofun (Wp ?_))
  exact leave1 rfl rfl (⟨r_14, hV, rfl, hS⟩)
  intro hc_169
  replace hV := hV.2 (ov hc_169)
  refine WC.sr ?_
  iterate 2 refine R hS ?_
  refine WL.nx ?_
  refine Cd ?_ ?_
  intro hc_168
  replace hV := hV.1 (od hc_168)
  refine WC.sr ?_
  iterate 2 refine R hS ?_
  obtain ⟨hi_17, hV⟩ := hV
  refine R hS ?_
  obtain ⟨hi_18, hV⟩ := hV
  iterate 2 refine R hS ?_
  refine WL.nx (Sb [(2, sv ((([34] : Str) ++ v_1.t) ++ ([34] : Str)))] ?_)
  replace hS := hS.drop
  refine WC.ret (WQ.out nofun (Wp ?_))
  exact leave1 rfl rfl (⟨((([34] : Str) ++ v_1.t) ++ ([34] : Str)), hV, rfl, hS⟩)
  intro hc_168
  replace hV := hV.2 (ov hc_168)
  refine WC.sr ?_
  iterate 2 refine R hS ?_
  refine WL.nx (Sb [(1, (pq b_8)), (11, i6 v_1.k), (28, .bool (decide (v_1.k = (4 : Int))))] ?_)
  refine Cd ?_ ?_
  intro hc_167
  replace hV := hV.1 (od hc_167)
  refine WC.sr ?_
  iterate 3 refine R hS ?_
  refine WL.nx ?_
  replace hS := hS.drop
  refine WC.ret (WQ.out nofun (Wp ?_))
  exact leave1 rfl rfl (⟨v_1.t, hV, rfl, hS⟩)
  intro hc_167
  replace hV := hV.2 (ov hc_167)
  refine WC.sr ?_
  iterate 2 refine R hS ?_
  refine WL.nx ?_
  refine Cd ?_ ?_
  intro hc_166
  replace hV := hV.1 (od hc_166)
  refine WC.sr ?_
  iterate 2 refine R hS ?_
  refine Rc (enters0 (vs := [v_2]) call32 ⟨rfl, trivial⟩) (S_rshown (@ih) h_6 hS hV) ?_
  clear hV hS
  rintro _ w ⟨r_21, hV, rfl, hS⟩
  refine ⟨_, rfl, ?_⟩
  refine R hS ?_
  refine WL.nx ?_
  replace hS := hS.drop
  refine WC.sr (R hS ?_)
  obtain ⟨hi_23, hV⟩ := hV
  refine R hS ?_
  obtain ⟨hi_24, hV⟩ := hV
  iterate 2 refine R hS ?_
  refine WL.nx (Sb [(2, sv ((([123] : Str) ++ r_21) ++ ([125] : Str)))] ?_)
  refine WC.ret (WQ.out nofun (Wp ?_))
  exact leave1 rfl rfl (⟨((([123] : Str) ++ r_21) ++ ([125] : Str)), hV, rfl, hS⟩)
  intro hc_166
  replace hV := hV.2 (ov hc_166)
  refine WC.sr ?_
  iterate 2 refine R hS ?_
  refine WL.nx ?_
  refine Cd ?_ ?_
  intro hc_165
  replace hV := hV.1 (od hc_165)
  refine WC.sr (Rn hS (ex_load_box_agg (cs := [i6 v_1.k, i6 v_1.i, sv v_1.t, v_2, v_3]) isAgg32 sizeOf32 rfl rfl rfl) ?_)
  refine Rc (enters0 (vs := [.agg #[i6 v_1.k, i6 v_1.i, sv v_1.t, v_2, v_3]]) call33 ⟨rfl, trivial⟩) (S_rSeq (v_1 := v_1) hr_4 hr_5 h_6 h_7 hS hV) ?_
  clear hV hS
  rintro _ w ⟨r_26, hV, rfl, hS⟩
  refine ⟨_, rfl, ?_⟩
  refine R hS ?_
  refine WL.nx (WC.seq (WC.sr (R hS ?_)))
  refine WL.nx ?_
  refine Cd ?_ ?_
  intro hc_164
  replace hV := hV.1 hc_164
  refine WC.sr ?_
  iterate 2 refine R hS ?_
  refine Rc (enters0 (vs := [v_3]) call32 ⟨rfl, trivial⟩) (S_rshown (@ih) h_7 hS hV) ?_
  clear hV hS
  rintro _ w ⟨r_28, hV, rfl, hS⟩
  refine ⟨_, rfl, ?_⟩
  refine R hS ?_
  refine WL.nx (Sb [(5, sv r_28)] ?_)
  replace hS := hS.drop
  refine WC.sr (R hS ?_)
  obtain ⟨hi_30, hV⟩ := hV
  refine R hS ?_
  obtain ⟨hi_31, hV⟩ := hV
  iterate 2 refine R hS ?_
  refine WL.nx (WC.ret (Wp ?_))
  refine WQ.out nofun (Wp ?_)
  exact leave1 rfl rfl (⟨((([60, 60] : Str) ++ r_28) ++ ([62, 62] : Str)), hV, rfl, hS⟩)
  intro hc_164
  replace hV := hV.2 hc_164
  refine WC.skip (WQ.next (Sb [(1, (pq b_8))] ?_))
  refine WC.sr (R hS ?_)
  refine WL.nx (WC.seq (WC.sr (R hS ?_)))
  refine WL.nx (WC.block ?_)
  obtain ⟨I_117, mu_118, hI_163, hV⟩ := hV
  refine WC.loop (σ := Str × Int) (fun s a w => ∃ (s_73 : Str) (i_74 : Int), s = (s_73, i_74) ∧ I_117 (s_73, i_74) ∧ I64 i_74 ∧ St w0 H ([(b_8, oc #[i6 v_1.k, i6 v_1.i, sv v_1.t, v_2, v_3] 32)] ++ L) w ∧ Fr 83 [(1, (pq b_8)), (6, sv s_73), (7, i6 i_74)] a) mu_118 (([] : Str), (0 : Int)) ?_ ?_
  exact fun a ha => ⟨([] : Str), (0 : Int), rfl, hI_163, i0, hS, ha.os⟩
  clear hS hI_163
  rintro _ a w ⟨s_73, i_74, rfl, hI, hr_75, hS, ha⟩
  refine in_frame ha ?_
  clear ha
  replace hV := hV _ hI
  clear hI
  refine WC.seq (WC.sr ?_)
  iterate 3 refine R hS ?_
  have hl_120 : Len v_1.ks := h_6.bound
  replace hV := hV hl_120
  refine Rn hS (ex_len_sl underlying30 rfl h_6) ?_
  refine R hS ?_
  refine WL.nx ?_
  refine Cd ?_ ?_
  intro hc_162
  replace hV := hV.1 (od hc_162)
  refine WC.skip (WQ.next (WC.seq (WC.block ?_)))
  obtain ⟨J_126, hJ_127, hV⟩ := hV
  refine WC.meet (fun a w => ∃ (s_125 : Str), J_126 s_125 ∧ St w0 H ([(b_8, oc #[i6 v_1.k, i6 v_1.i, sv v_1.t, v_2, v_3] 32)] ++ L) w ∧ Fr 83 [(1, (pq b_8)), (6, sv s_125), (7, i6 i_74)] a) ?_ ?_
  rintro a w ⟨s_125, hI, hS, ha⟩
  refine in_frame ha ?_
  clear ha hV
  have hV := hJ_127 _ hI
  clear hI hJ_127
  refine WC.sr ?_
  iterate 3 refine R hS ?_
  obtain ⟨hin_131, hV⟩ := hV
  refine Rx hS (ex_index underlying30 sizeOf32 rfl rfl h_6 hin_131) ?_
  intro p_132 hp_133
  refine Rx hS (ex_load_agg isAgg32 sizeOf32 rfl hp_133) ?_
  rintro u_134 ⟨_, rfl, hu⟩
  obtain ⟨v_135, v_136, rfl, hr_137, hr_138, h_139, h_140⟩ := cR_rep.1 hu
  replace hV := hV hr_137 hr_138
  refine Rc (enters0 (vs := [.agg #[i6 ((ix v_1.ks i_74).k), i6 ((ix v_1.ks i_74).i), sv ((ix v_1.ks i_74).t), v_135, v_136]]) call12 ⟨rfl, trivial⟩) (ih (v_1 := (ix v_1.ks i_74)) hr_137 hr_138 h_139 h_140 hS hV) ?_
  clear hV hS
  rintro _ w ⟨r_141, hV, rfl, hS⟩
  refine ⟨_, rfl, ?_⟩
  refine R hS ?_
  refine WL.nx (WC.sr ?_)
  iterate 3 refine R hS ?_
  obtain ⟨hin_143, hV⟩ := hV
  refine Rx hS (ex_index underlying30 sizeOf32 rfl rfl h_7 hin_143) ?_
  intro p_144 hp_145
  refine Rx hS (ex_load_agg isAgg32 sizeOf32 rfl hp_145) ?_
  rintro u_146 ⟨_, rfl, hu⟩
  obtain ⟨v_147, v_148, rfl, hr_149, hr_150, h_151, h_152⟩ := cR_rep.1 hu
  replace hV := hV hr_149 hr_150
  refine Rc (enters0 (vs := [.agg #[i6 ((ix v_1.vs i_74).k), i6 ((ix v_1.vs i_74).i), sv ((ix v_1.vs i_74).t), v_147, v_148]]) call12 ⟨rfl, trivial⟩) (ih (v_1 := (ix v_1.vs i_74)) hr_149 hr_150 h_151 h_152 hS hV) ?_
  clear hV hS
  rintro _ w ⟨r_153, hV, rfl, hS⟩
  refine ⟨_, rfl, ?_⟩
  refine R hS ?_
  refine WL.nx (Sb [(1, (pq b_8)), (6, sv s_125), (7, i6 i_74), (8, sv r_141), (9, sv r_153)] ?_)
  refine WC.region ?_
  iterate 2 refine R hS ?_
  obtain ⟨hi_155, hV⟩ := hV
  refine R hS ?_
  obtain ⟨hi_156, hV⟩ := hV
  iterate 2 refine R hS ?_
  obtain ⟨hi_157, hV⟩ := hV
  iterate 2 refine R hS ?_
  refine WL.nil (WQ.out nofun (WQ.next (WC.region (R hS ?_))))
  obtain ⟨hi_159, hV⟩ := hV
  iterate 2 refine R hS ?_
  refine WL.nil ?_
  exact Wt fun a ha => ⟨((((s_125 ++ r_141) ++ ([58, 32] : Str)) ++ r_153), (i_74 + (1 : Int))), ⟨(((s_125 ++ r_141) ++ ([58, 32] : Str)) ++ r_153), (i_74 + (1 : Int)), rfl, hV.1, hi_159, hS, ha.os⟩, hV.2⟩
  clear hJ_127
  refine WC.sr ?_
  iterate 2 refine R hS ?_
  refine WL.nx ?_
  refine Cd ?_ ?_
  intro hc_130
  replace hV := hV.1 (od hc_130)
  refine WC.region (R hS ?_)
  obtain ⟨hi_129, hV⟩ := hV
  iterate 2 refine R hS ?_
  refine WL.nil ?_
  exact Wt fun a ha => ⟨(s_73 ++ ([44, 32] : Str)), hV, hS, ha.os⟩
  intro hc_130
  replace hV := hV.2 (ov hc_130)
  refine WC.skip ?_
  exact Wt fun a ha => ⟨s_73, hV, hS, ha.os⟩
  intro hc_162
  replace hV := hV.2 (ov hc_162)
  refine WC.exit (Wp ?_)
  refine Wp ?_
  refine WQ.hit (WQ.next ?_)
  replace hS := hS.drop
  refine WC.sr (R hS ?_)
  obtain ⟨hi_160, hV⟩ := hV
  refine R hS ?_
  obtain ⟨hi_161, hV⟩ := hV
  iterate 2 refine R hS ?_
  refine WL.nx (Sb [(2, sv ((([91] : Str) ++ s_73) ++ ([93] : Str)))] ?_)
  refine WC.ret (WQ.out nofun (Wp ?_))
  exact leave1 rfl rfl (⟨((([91] : Str) ++ s_73) ++ ([93] : Str)), hV, rfl, hS⟩)
  intro hc_165
  replace hV := hV.2 (ov hc_165)
  refine WC.skip (WQ.out nofun (WQ.next ?_))
  replace hS := hS.drop
  refine WC.sr (R hS ?_)
  refine WL.nx (WC.ret ?_)
  exact leave1 rfl rfl (⟨([110, 105, 108] : Str), hV, rfl, hS⟩)
theorem S_rReserved {w0 : World} {H : View} {L : Seg} {w : World} {s_1 : Str} {Q : Bool → Prop}  (hS : St w0 H (L) w) (hV : V_rReserved s_1 Q) :
 Calls Tryz.prog 116 #[sv s_1] w fun e w' => ∃ (r1 : Bool), Q r1 ∧ e = .returned (.bool r1) ∧ St w0 H (L) w' := by
 unfold V_rReserved at hV
 refine enter func116 rfl ntmps116 rfl (lk_args_cons (d := 0) (v := sv s_1) rfl (lk_args_nil _)) (WC.sr (R hS ?_))
 refine WL.nx (WC.sr ?_)
 refine WL.buildn (c := cStr) (xs := [([109, 111, 100, 117, 108, 101] : Str), ([99, 111, 110, 115, 116, 97, 110, 116] : Str), ([97, 116, 111, 109, 115] : Str), ([115, 121, 109, 109, 101, 116, 114, 105, 99] : Str), ([118, 97, 114, 105, 97, 98, 108, 101] : Str), ([100, 101, 102, 105, 110, 101] : Str), ([105, 110, 105, 116] : Str), ([97, 99, 116, 105, 111, 110] : Str), ([102, 97, 105, 114] : Str), ([119, 101, 97, 107] : Str), ([115, 116, 114, 111, 110, 103] : Str), ([105, 110, 118, 97, 114, 105, 97, 110, 116] : Str), ([112, 114, 111, 112, 101, 114, 116, 121] : Str), ([97, 110, 100] : Str), ([111, 114] : Str), ([110, 111, 116] : Str), ([105, 109, 112, 108, 105, 101, 115] : Str), ([105, 102, 102] : Str), ([105, 110] : Str), ([117, 110, 105, 111, 110] : Str), ([105, 110, 116, 101, 114] : Str), ([109, 105, 110, 117, 115] : Str), ([115, 117, 98, 115, 101, 116] : Str), ([112, 111, 119, 101, 114, 115, 101, 116] : Str), ([102, 108, 97, 116, 116, 101, 110] : Str), ([100, 111, 109, 97, 105, 110] : Str), ([117, 110, 99, 104, 97, 110, 103, 101, 100] : Str), ([101, 110, 97, 98, 108, 101, 100] : Str), ([97, 108, 119, 97, 121, 115] : Str), ([101, 118, 101, 110, 116, 117, 97, 108, 108, 121] : Str), ([117, 110, 116, 105, 108] : Str), ([108, 101, 97, 100, 115, 116, 111] : Str), ([99, 104, 111, 111, 115, 101] : Str), ([97, 108, 108] : Str), ([115, 111, 109, 101] : Str), ([101, 97, 99, 104] : Str), ([116, 104, 111, 115, 101] : Str), ([102, 117, 110] : Str), ([105, 102] : Str), ([116, 104, 101, 110] : Str), ([101, 108, 115, 101] : Str), ([108, 101, 116] : Str), ([110, 105, 108] : Str), ([116, 114, 117, 101] : Str), ([102, 97, 108, 115, 101] : Str), ([115, 105, 122, 101] : Str), ([108, 101, 110] : Str), ([104, 101, 97, 100] : Str), ([116, 97, 105, 108] : Str), ([97, 112, 112, 101, 110, 100] : Str), ([118, 97, 108, 117, 101, 115] : Str), ([115, 101, 113, 115] : Str)]) (vs := [sv ([109, 111, 100, 117, 108, 101] : Str), sv ([99, 111, 110, 115, 116, 97, 110, 116] : Str), sv ([97, 116, 111, 109, 115] : Str), sv ([115, 121, 109, 109, 101, 116, 114, 105, 99] : Str), sv ([118, 97, 114, 105, 97, 98, 108, 101] : Str), sv ([100, 101, 102, 105, 110, 101] : Str), sv ([105, 110, 105, 116] : Str), sv ([97, 99, 116, 105, 111, 110] : Str), sv ([102, 97, 105, 114] : Str), sv ([119, 101, 97, 107] : Str), sv ([115, 116, 114, 111, 110, 103] : Str), sv ([105, 110, 118, 97, 114, 105, 97, 110, 116] : Str), sv ([112, 114, 111, 112, 101, 114, 116, 121] : Str), sv ([97, 110, 100] : Str), sv ([111, 114] : Str), sv ([110, 111, 116] : Str), sv ([105, 109, 112, 108, 105, 101, 115] : Str), sv ([105, 102, 102] : Str), sv ([105, 110] : Str), sv ([117, 110, 105, 111, 110] : Str), sv ([105, 110, 116, 101, 114] : Str), sv ([109, 105, 110, 117, 115] : Str), sv ([115, 117, 98, 115, 101, 116] : Str), sv ([112, 111, 119, 101, 114, 115, 101, 116] : Str), sv ([102, 108, 97, 116, 116, 101, 110] : Str), sv ([100, 111, 109, 97, 105, 110] : Str), sv ([117, 110, 99, 104, 97, 110, 103, 101, 100] : Str), sv ([101, 110, 97, 98, 108, 101, 100] : Str), sv ([97, 108, 119, 97, 121, 115] : Str), sv ([101, 118, 101, 110, 116, 117, 97, 108, 108, 121] : Str), sv ([117, 110, 116, 105, 108] : Str), sv ([108, 101, 97, 100, 115, 116, 111] : Str), sv ([99, 104, 111, 111, 115, 101] : Str), sv ([97, 108, 108] : Str), sv ([115, 111, 109, 101] : Str), sv ([101, 97, 99, 104] : Str), sv ([116, 104, 111, 115, 101] : Str), sv ([102, 117, 110] : Str), sv ([105, 102] : Str), sv ([116, 104, 101, 110] : Str), sv ([101, 108, 115, 101] : Str), sv ([108, 101, 116] : Str), sv ([110, 105, 108] : Str), sv ([116, 114, 117, 101] : Str), sv ([102, 97, 108, 115, 101] : Str), sv ([115, 105, 122, 101] : Str), sv ([108, 101, 110] : Str), sv ([104, 101, 97, 100] : Str), sv ([116, 97, 105, 108] : Str), sv ([97, 112, 112, 101, 110, 100] : Str), sv ([118, 97, 108, 117, 101, 115] : Str), sv ([115, 101, 113, 115] : Str)]) rfl underlying43 info9 rfl rfl ⟨rfl, rfl, rfl, rfl, rfl, rfl, rfl, rfl, rfl, rfl, rfl, rfl, rfl, rfl, rfl, rfl, rfl, rfl, rfl, rfl, rfl, rfl, rfl, rfl, rfl, rfl, rfl, rfl, rfl, rfl, rfl, rfl, rfl, rfl, rfl, rfl, rfl, rfl, rfl, rfl, rfl, rfl, rfl, rfl, rfl, rfl, rfl, rfl, rfl, rfl, rfl, rfl, trivial⟩ rfl ⟨_, _, rfl, cStr_mk, ⟨_, _, rfl, cStr_mk, ⟨_, _, rfl, cStr_mk, ⟨_, _, rfl, cStr_mk, ⟨_, _, rfl, cStr_mk, ⟨_, _, rfl, cStr_mk, ⟨_, _, rfl, cStr_mk, ⟨_, _, rfl, cStr_mk, ⟨_, _, rfl, cStr_mk, ⟨_, _, rfl, cStr_mk, ⟨_, _, rfl, cStr_mk, ⟨_, _, rfl, cStr_mk, ⟨_, _, rfl, cStr_mk, ⟨_, _, rfl, cStr_mk, ⟨_, _, rfl, cStr_mk, ⟨_, _, rfl, cStr_mk, ⟨_, _, rfl, cStr_mk, ⟨_, _, rfl, cStr_mk, ⟨_, _, rfl, cStr_mk, ⟨_, _, rfl, cStr_mk, ⟨_, _, rfl, cStr_mk, ⟨_, _, rfl, cStr_mk, ⟨_, _, rfl, cStr_mk, ⟨_, _, rfl, cStr_mk, ⟨_, _, rfl, cStr_mk, ⟨_, _, rfl, cStr_mk, ⟨_, _, rfl, cStr_mk, ⟨_, _, rfl, cStr_mk, ⟨_, _, rfl, cStr_mk, ⟨_, _, rfl, cStr_mk, ⟨_, _, rfl, cStr_mk, ⟨_, _, rfl, cStr_mk, ⟨_, _, rfl, cStr_mk, ⟨_, _, rfl, cStr_mk, ⟨_, _, rfl, cStr_mk, ⟨_, _, rfl, cStr_mk, ⟨_, _, rfl, cStr_mk, ⟨_, _, rfl, cStr_mk, ⟨_, _, rfl, cStr_mk, ⟨_, _, rfl, cStr_mk, ⟨_, _, rfl, cStr_mk, ⟨_, _, rfl, cStr_mk, ⟨_, _, rfl, cStr_mk, ⟨_, _, rfl, cStr_mk, ⟨_, _, rfl, cStr_mk, ⟨_, _, rfl, cStr_mk, ⟨_, _, rfl, cStr_mk, ⟨_, _, rfl, cStr_mk, ⟨_, _, rfl, cStr_mk, ⟨_, _, rfl, cStr_mk, ⟨_, _, rfl, cStr_mk, ⟨_, _, rfl, cStr_mk, rfl⟩⟩⟩⟩⟩⟩⟩⟩⟩⟩⟩⟩⟩⟩⟩⟩⟩⟩⟩⟩⟩⟩⟩⟩⟩⟩⟩⟩⟩⟩⟩⟩⟩⟩⟩⟩⟩⟩⟩⟩⟩⟩⟩⟩⟩⟩⟩⟩⟩⟩⟩⟩ hS rfl ?_
 clear hS
 intro v_3 w fp_4 h_5 hS
 refine R hS ?_
 refine WL.nx (WC.seq (WC.sr (R hS ?_)))
 refine WL.nx (WC.block ?_)
 obtain ⟨I_30, mu_31, hI_44, hV⟩ := hV
 refine WC.loop (σ := Int) (fun s a w => ∃ (i_17 : Int), s = i_17 ∧ I_30 i_17 ∧ I64 i_17 ∧ St w0 H (fp_4 ++ L) w ∧ Fr 18 [(0, sv s_1), (3, v_3), (4, i6 i_17)] a) mu_31 (0 : Int) ?_ ?_
 exact fun a ha => ⟨(0 : Int), rfl, hI_44, i0, hS, ha.os⟩
 clear hS hI_44
 rintro i_17 a w ⟨_, rfl, hI, hr_18, hS, ha⟩
 refine in_frame ha ?_
 clear ha
 replace hV := hV _ hI
 clear hI
 refine WC.seq (WC.sr ?_)
 iterate 2 refine R hS ?_
 have hl_33 : Len ([([109, 111, 100, 117, 108, 101] : Str), ([99, 111, 110, 115, 116, 97, 110, 116] : Str), ([97, 116, 111, 109, 115] : Str), ([115, 121, 109, 109, 101, 116, 114, 105, 99] : Str), ([118, 97, 114, 105, 97, 98, 108, 101] : Str), ([100, 101, 102, 105, 110, 101] : Str), ([105, 110, 105, 116] : Str), ([97, 99, 116, 105, 111, 110] : Str), ([102, 97, 105, 114] : Str), ([119, 101, 97, 107] : Str), ([115, 116, 114, 111, 110, 103] : Str), ([105, 110, 118, 97, 114, 105, 97, 110, 116] : Str), ([112, 114, 111, 112, 101, 114, 116, 121] : Str), ([97, 110, 100] : Str), ([111, 114] : Str), ([110, 111, 116] : Str), ([105, 109, 112, 108, 105, 101, 115] : Str), ([105, 102, 102] : Str), ([105, 110] : Str), ([117, 110, 105, 111, 110] : Str), ([105, 110, 116, 101, 114] : Str), ([109, 105, 110, 117, 115] : Str), ([115, 117, 98, 115, 101, 116] : Str), ([112, 111, 119, 101, 114, 115, 101, 116] : Str), ([102, 108, 97, 116, 116, 101, 110] : Str), ([100, 111, 109, 97, 105, 110] : Str), ([117, 110, 99, 104, 97, 110, 103, 101, 100] : Str), ([101, 110, 97, 98, 108, 101, 100] : Str), ([97, 108, 119, 97, 121, 115] : Str), ([101, 118, 101, 110, 116, 117, 97, 108, 108, 121] : Str), ([117, 110, 116, 105, 108] : Str), ([108, 101, 97, 100, 115, 116, 111] : Str), ([99, 104, 111, 111, 115, 101] : Str), ([97, 108, 108] : Str), ([115, 111, 109, 101] : Str), ([101, 97, 99, 104] : Str), ([116, 104, 111, 115, 101] : Str), ([102, 117, 110] : Str), ([105, 102] : Str), ([116, 104, 101, 110] : Str), ([101, 108, 115, 101] : Str), ([108, 101, 116] : Str), ([110, 105, 108] : Str), ([116, 114, 117, 101] : Str), ([102, 97, 108, 115, 101] : Str), ([115, 105, 122, 101] : Str), ([108, 101, 110] : Str), ([104, 101, 97, 100] : Str), ([116, 97, 105, 108] : Str), ([97, 112, 112, 101, 110, 100] : Str), ([118, 97, 108, 117, 101, 115] : Str), ([115, 101, 113, 115] : Str)]) := h_5.bound
 replace hV := hV hl_33
 refine Rn hS (ex_len_own underlying43 rfl h_5) ?_
 refine R hS ?_
 refine WL.nx ?_
 refine Cd ?_ ?_
 intro hc_43
 replace hV := hV.1 (od hc_43)
 refine WC.skip (WQ.next (WC.seq (WC.block (WC.sr ?_))))
 iterate 2 refine R hS ?_
 obtain ⟨hin_35, hV⟩ := hV
 refine Rx hS (ex_index_own underlying43 sizeOf9 rfl rfl h_5 hin_35) ?_
 intro p_36 hp_37
 refine Rx hS (exNow (H := H) (L := L) (ex_load_own_s isAgg9 rfl rfl h_5 hp_37 hin_35)) ?_
 intro u_38 hu_39
 obtain rfl := cStr_rep hu_39
 iterate 2 refine R hS ?_
 refine WL.nx ?_
 refine Cd ?_ ?_
 intro hc_42
 replace hV := hV.1 (od hc_42)
 refine WC.sr (R hS ?_)
 refine WL.nx (Sb [(2, .bool true)] ?_)
 replace hS := hS.drop
 refine WC.ret (WQ.out nofun (Wp ?_))
 refine Wp ?_
 refine WQ.out nofun (Wp ?_)
 exact leave1 rfl rfl (⟨true, hV, rfl, hS⟩)
 intro hc_42
 replace hV := hV.2 (ov hc_42)
 refine WC.skip (WQ.out nofun (WQ.next (Sb [(0, sv s_1), (3, v_3), (4, i6 i_17)] ?_)))
 refine WC.region (R hS ?_)
 obtain ⟨hi_41, hV⟩ := hV
 iterate 2 refine R hS ?_
 refine WL.nil ?_
 exact Wt fun a ha => ⟨(i_17 + (1 : Int)), ⟨(i_17 + (1 : Int)), rfl, hV.1, hi_41, hS, ha.os⟩, hV.2⟩
 intro hc_43
 replace hV := hV.2 (ov hc_43)
 refine WC.exit (Wp ?_)
 refine Wp ?_
 refine WQ.hit (WQ.next ?_)
 replace hS := hS.drop
 refine WC.sr (R hS ?_)
 refine WL.nx (WC.ret ?_)
 exact leave1 rfl rfl (⟨false, hV, rfl, hS⟩)
theorem S_rLetter {w0 : World} {H : View} {L : Seg} {w : World} {c_1 : Int} {Q : Bool → Prop} (hr_2 : IntKind.u8.has c_1) (hS : St w0 H (L) w) (hV : V_rLetter c_1 Q) :
 Calls Tryz.prog 115 #[.int .u8 c_1] w fun e w' => ∃ (r1 : Bool), Q r1 ∧ e = .returned (.bool r1) ∧ St w0 H (L) w' := by
 unfold V_rLetter at hV
 refine enter func115 rfl ntmps115 rfl (lk_args_cons (d := 0) (v := .int .u8 c_1) rfl (lk_args_nil _)) (WC.sr (R hS ?_))
 refine WL.nx (WC.seq ?_)
 refine WC.via (m := [(2, .bool (decide ((((97 : Int) ≤ c_1) ∧ (c_1 ≤ (122 : Int))) ∨ (((65 : Int) ≤ c_1) ∧ (c_1 ≤ (90 : Int))))))]) ?_ ?_
 refine WC.region ?_
 iterate 3 refine R hS ?_
 rcases bft (decide ((97 : Int) ≤ c_1)) with hg_3 | hg_3
 iterate 3 refine R hS ?_
 refine WL.up (s := 8) rfl (and_t hg_3 : decide (c_1 ≤ (122 : Int)) = decide (((97 : Int) ≤ c_1) ∧ (c_1 ≤ (122 : Int)))) (R hS ?_)
 rcases bft (decide (((97 : Int) ≤ c_1) ∧ (c_1 ≤ (122 : Int)))) with hg_4 | hg_4
 iterate 7 refine R hS ?_
 refine WL.up (s := 16) rfl (or_t hg_4 : true = decide ((((97 : Int) ≤ c_1) ∧ (c_1 ≤ (122 : Int))) ∨ (((65 : Int) ≤ c_1) ∧ (c_1 ≤ (90 : Int))))) (R hS ?_)
 exact WL.nil At.os
 iterate 3 refine R hS ?_
 rcases bft (decide ((65 : Int) ≤ c_1)) with hg_5 | hg_5
 iterate 3 refine R hS ?_
 refine WL.up (s := 15) rfl (and_t hg_5 : decide (c_1 ≤ (90 : Int)) = decide (((65 : Int) ≤ c_1) ∧ (c_1 ≤ (90 : Int)))) (R hS ?_)
 refine WL.up (s := 16) rfl (or_f hg_4 : decide (((65 : Int) ≤ c_1) ∧ (c_1 ≤ (90 : Int))) = decide ((((97 : Int) ≤ c_1) ∧ (c_1 ≤ (122 : Int))) ∨ (((65 : Int) ≤ c_1) ∧ (c_1 ≤ (90 : Int))))) (R hS ?_)
 exact WL.nil At.os
 iterate 3 refine R hS ?_
 refine WL.up (s := 15) rfl (and_f hg_5 : false = decide (((65 : Int) ≤ c_1) ∧ (c_1 ≤ (90 : Int)))) (R hS ?_)
 refine WL.up (s := 16) rfl (or_f hg_4 : decide (((65 : Int) ≤ c_1) ∧ (c_1 ≤ (90 : Int))) = decide ((((97 : Int) ≤ c_1) ∧ (c_1 ≤ (122 : Int))) ∨ (((65 : Int) ≤ c_1) ∧ (c_1 ≤ (90 : Int))))) (R hS ?_)
 exact WL.nil At.os
 iterate 3 refine R hS ?_
 refine WL.up (s := 8) rfl (and_f hg_3 : false = decide (((97 : Int) ≤ c_1) ∧ (c_1 ≤ (122 : Int)))) (R hS ?_)
 refine Ug (and_f hg_3).symm ?_
 refine R hS ?_
 refine Ug (and_f hg_3).symm ?_
 refine R hS ?_
 refine Ug (and_f hg_3).symm ?_
 refine R hS ?_
 rcases bft (decide ((65 : Int) ≤ c_1)) with hg_6 | hg_6
 iterate 2 refine R hS ?_
 refine Ug (and_f hg_3).symm ?_
 refine R hS ?_
 refine WL.up (s := 15) rfl (and_t hg_6 : decide (c_1 ≤ (90 : Int)) = decide (((65 : Int) ≤ c_1) ∧ (c_1 ≤ (90 : Int)))) (Rn hS (ex_pick_f rfl (and_f hg_3).symm rfl) ?_)
 refine WL.up (s := 16) rfl (or_f (and_f hg_3).symm : decide (((65 : Int) ≤ c_1) ∧ (c_1 ≤ (90 : Int))) = decide ((((97 : Int) ≤ c_1) ∧ (c_1 ≤ (122 : Int))) ∨ (((65 : Int) ≤ c_1) ∧ (c_1 ≤ (90 : Int))))) (R hS ?_)
 exact WL.nil At.os
 iterate 2 refine R hS ?_
 refine Ug (and_f hg_3).symm ?_
 refine R hS ?_
 refine WL.up (s := 15) rfl (and_f hg_6 : false = decide (((65 : Int) ≤ c_1) ∧ (c_1 ≤ (90 : Int)))) (Rn hS (ex_pick_f rfl (and_f hg_3).symm rfl) ?_)
 refine WL.up (s := 16) rfl (or_f (and_f hg_3).symm : decide (((65 : Int) ≤ c_1) ∧ (c_1 ≤ (90 : Int))) = decide ((((97 : Int) ≤ c_1) ∧ (c_1 ≤ (122 : Int))) ∨ (((65 : Int) ≤ c_1) ∧ (c_1 ≤ (90 : Int))))) (R hS ?_)
 exact WL.nil At.os
 refine WQ.next (WC.ret ?_)
 exact leave1 rfl rfl (⟨decide ((((97 : Int) ≤ c_1) ∧ (c_1 ≤ (122 : Int))) ∨ (((65 : Int) ≤ c_1) ∧ (c_1 ≤ (90 : Int)))), hV, rfl, hS⟩)
theorem S_rDigit {w0 : World} {H : View} {L : Seg} {w : World} {c_1 : Int} {Q : Bool → Prop} (hr_2 : IntKind.u8.has c_1) (hS : St w0 H (L) w) (hV : V_rDigit c_1 Q) :
 Calls Tryz.prog 113 #[.int .u8 c_1] w fun e w' => ∃ (r1 : Bool), Q r1 ∧ e = .returned (.bool r1) ∧ St w0 H (L) w' := by
 unfold V_rDigit at hV
 refine enter func113 rfl ntmps113 rfl (lk_args_cons (d := 0) (v := .int .u8 c_1) rfl (lk_args_nil _)) (WC.sr (R hS ?_))
 refine WL.nx (WC.seq ?_)
 refine WC.via (m := [(2, .bool (decide (((48 : Int) ≤ c_1) ∧ (c_1 ≤ (57 : Int)))))]) ?_ ?_
 refine WC.region ?_
 iterate 3 refine R hS ?_
 rcases bft (decide ((48 : Int) ≤ c_1)) with hg_3 | hg_3
 iterate 3 refine R hS ?_
 refine WL.up (s := 8) rfl (and_t hg_3 : decide (c_1 ≤ (57 : Int)) = decide (((48 : Int) ≤ c_1) ∧ (c_1 ≤ (57 : Int)))) (R hS ?_)
 exact WL.nil At.os
 iterate 3 refine R hS ?_
 refine WL.up (s := 8) rfl (and_f hg_3 : false = decide (((48 : Int) ≤ c_1) ∧ (c_1 ≤ (57 : Int)))) (R hS ?_)
 exact WL.nil At.os
 refine WQ.next (WC.ret ?_)
 exact leave1 rfl rfl (⟨decide (((48 : Int) ≤ c_1) ∧ (c_1 ≤ (57 : Int))), hV, rfl, hS⟩)
theorem S_rInner {w0 : World} {H : View} {L : Seg} {w : World} {c_1 : Int} {Q : Bool → Prop} (hr_2 : IntKind.u8.has c_1) (hS : St w0 H (L) w) (hV : V_rInner c_1 Q) :
 Calls Tryz.prog 196 #[.int .u8 c_1] w fun e w' => ∃ (r1 : Bool), Q r1 ∧ e = .returned (.bool r1) ∧ St w0 H (L) w' := by
 unfold V_rInner at hV
 refine enter func196 rfl ntmps196 rfl (lk_args_cons (d := 0) (v := .int .u8 c_1) rfl (lk_args_nil _)) (WC.sr (R hS ?_))
 refine WL.nx (WC.sr (R hS ?_))
 refine Rc (enters0 (vs := [.int .u8 c_1]) call115 ⟨rfl, trivial⟩) (S_rLetter hr_2 hS hV) ?_
 clear hV hS
 rintro _ w ⟨r_3, hV, rfl, hS⟩
 refine ⟨_, rfl, ?_⟩
 refine R hS ?_
 refine WL.nx (WC.sr (R hS ?_))
 refine Rc (enters0 (vs := [.int .u8 c_1]) call113 ⟨rfl, trivial⟩) (S_rDigit hr_2 hS hV) ?_
 clear hV hS
 rintro _ w ⟨r_5, hV, rfl, hS⟩
 refine ⟨_, rfl, ?_⟩
 refine R hS ?_
 refine WL.nx (WC.seq ?_)
 refine WC.via (m := [(2, .bool (decide (((r_3 = true) ∨ (r_5 = true)) ∨ (c_1 = (95 : Int)))))]) ?_ ?_
 refine WC.region ?_
 iterate 2 refine R hS ?_
 rcases bft r_3 with hg_7 | hg_7
 iterate 2 refine R hS ?_
 refine WL.up (s := 12) rfl (or_t ((dec_true _).symm.trans hg_7) : true = decide ((r_3 = true) ∨ (r_5 = true))) (R hS ?_)
 refine WL.skip_g rfl rfl rfl (or_t ((dec_true _).symm.trans hg_7)).symm rfl rfl (WL.skip_g rfl rfl rfl (or_t ((dec_true _).symm.trans hg_7)).symm rfl rfl (Rn hS (ex_pick_t rfl (or_t ((dec_true _).symm.trans hg_7)).symm rfl) ?_))
 refine WL.up (s := 16) rfl (or_t (or_t ((dec_true _).symm.trans hg_7)).symm : true = decide (((r_3 = true) ∨ (r_5 = true)) ∨ (c_1 = (95 : Int)))) (R hS ?_)
 exact WL.nil At.os
 iterate 2 refine R hS ?_
 refine WL.up (s := 12) rfl ((dec_true _).trans (or_f ((dec_true _).symm.trans hg_7) : decide (r_5 = true) = decide ((r_3 = true) ∨ (r_5 = true)))) (R hS ?_)
 rcases bft (decide ((r_3 = true) ∨ (r_5 = true))) with hg_8 | hg_8
 iterate 3 refine R hS ?_
 refine WL.up (s := 16) rfl (or_t hg_8 : true = decide (((r_3 = true) ∨ (r_5 = true)) ∨ (c_1 = (95 : Int)))) (R hS ?_)
 exact WL.nil At.os
 iterate 3 refine R hS ?_
 refine WL.up (s := 16) rfl (or_f hg_8 : decide (c_1 = (95 : Int)) = decide (((r_3 = true) ∨ (r_5 = true)) ∨ (c_1 = (95 : Int)))) (R hS ?_)
 exact WL.nil At.os
 refine WQ.next (WC.ret ?_)
 exact leave1 rfl rfl (⟨decide (((r_3 = true) ∨ (r_5 = true)) ∨ (c_1 = (95 : Int))), hV, rfl, hS⟩)
theorem S_rRun {w0 : World} {H : View} {L : Seg} {w : World} {s_1 : Str} {i_2 : Int} {Q : Int → Prop} (hr_3 : I64 i_2) (hS : St w0 H (L) w) (hV : V_rRun s_1 i_2 Q) :
 Calls Tryz.prog 112 #[sv s_1, i6 i_2] w fun e w' => ∃ (r1 : Int), Q r1 ∧ e = .returned (i6 r1) ∧ I64 r1 ∧ St w0 H (L) w' := by
 unfold V_rRun at hV
 refine enter func112 rfl ntmps112 rfl (lk_args_cons (d := 0) (v := sv s_1) rfl (lk_args_cons (d := 1) (v := i6 i_2) rfl (lk_args_nil _))) (WC.sr (R hS ?_))
 refine WL.nx ?_
 obtain ⟨J_39, hJ_40, hV⟩ := hV
 refine WC.meet (fun a w => ∃ (i_37 : Int), J_39 i_37 ∧ I64 i_37 ∧ St w0 H (L) w ∧ Fr 19 [(1, i6 i_37)] a) ?_ ?_
 rintro a w ⟨i_37, hI, hr_38, hS, ha⟩
 refine in_frame ha ?_
 clear ha hV
 have hV := hJ_40 _ hI
 clear hI hJ_40
 refine WC.sr ?_
 iterate 2 refine R hS ?_
 refine WL.nx (WC.ret ?_)
 exact leave1 rfl rfl (⟨i_37, hV, rfl, hr_38, hS⟩)
 clear hJ_40
 refine WC.block ?_
 obtain ⟨I_61, mu_62, hI_73, hV⟩ := hV
 refine WC.loop (σ := Int) (fun s a w => ∃ (i_50 : Int), s = i_50 ∧ I_61 i_50 ∧ I64 i_50 ∧ St w0 H (L) w ∧ Fr 19 [(0, sv s_1), (1, i6 i_50)] a) mu_62 i_2 ?_ ?_
 exact fun a ha => ⟨i_2, rfl, hI_73, hr_3, hS, ha.os⟩
 clear hS hI_73
 rintro i_50 a w ⟨_, rfl, hI, hr_51, hS, ha⟩
 refine in_frame ha ?_
 clear ha
 replace hV := hV _ hI
 clear hI
 refine WC.seq (WC.sr ?_)
 iterate 2 refine R hS ?_
 obtain ⟨hl_64, hV⟩ := hV
 iterate 2 refine R hS ?_
 refine WL.nx ?_
 refine Cd ?_ ?_
 intro hc_72
 replace hV := hV.1 (od hc_72)
 refine WC.skip (WQ.next (WC.block (WC.sr ?_)))
 iterate 2 refine R hS ?_
 obtain ⟨hin_66, hV⟩ := hV
 refine R hS ?_
 refine Rc (enters0 (vs := [.int .u8 (byte s_1 i_50)]) call196 ⟨rfl, trivial⟩) (S_rInner (byte_has (x := s_1) (i := i_50)) hS hV) ?_
 clear hV hS
 rintro _ w ⟨r_67, hV, rfl, hS⟩
 refine ⟨_, rfl, ?_⟩
 refine R hS ?_
 refine WL.nx (WC.seq (WC.sr ?_))
 iterate 2 refine R hS ?_
 refine WL.nx (Sb [(0, sv s_1), (1, i6 i_50), (15, .bool (!r_67))] ?_)
 refine Cd ?_ ?_
 intro hc_71
 replace hV := hV.1 hc_71
 refine WC.exit (Wp ?_)
 refine WQ.by rfl ?_
 refine Wp ?_
 refine WQ.hit ?_
 exact Wt fun a ha => ⟨i_50, hV, hr_51, hS, ha.os⟩
 intro hc_71
 replace hV := hV.2 hc_71
 refine WC.skip (WQ.next (WC.region (R hS ?_)))
 obtain ⟨hi_70, hV⟩ := hV
 iterate 2 refine R hS ?_
 refine WL.nil (WQ.out nofun ?_)
 exact Wt fun a ha => ⟨(i_50 + (1 : Int)), ⟨(i_50 + (1 : Int)), rfl, hV.1, hi_70, hS, ha.os⟩, hV.2⟩
 intro hc_72
 replace hV := hV.2 (ov hc_72)
 refine WC.exit (Wp ?_)
 refine Wp ?_
 refine WQ.hit ?_
 exact Wt fun a ha => ⟨i_50, hV, hr_51, hS, ha.os⟩
theorem S_rQuoted {w0 : World} {H : View} {L : Seg} {w : World} {s_1 : Str} {i_2 : Int} {Q : Int → Prop} (hr_3 : I64 i_2) (hS : St w0 H (L) w) (hV : V_rQuoted s_1 i_2 Q) :
 Calls Tryz.prog 111 #[sv s_1, i6 i_2] w fun e w' => ∃ (r1 : Int), Q r1 ∧ e = .returned (i6 r1) ∧ I64 r1 ∧ St w0 H (L) w' := by
 unfold V_rQuoted at hV
 refine enter func111 rfl ntmps111 rfl (lk_args_cons (d := 0) (v := sv s_1) rfl (lk_args_cons (d := 1) (v := i6 i_2) rfl (lk_args_nil _))) (WC.sr (R hS ?_))
 refine WL.nx (WC.seq (WC.sr (R hS ?_)))
 obtain ⟨hi_5, hV⟩ := hV
 iterate 2 refine R hS ?_
 refine WL.nx (WC.block ?_)
 obtain ⟨I_54, mu_55, hI_80, hV⟩ := hV
 refine WC.loop (σ := Int) (fun s a w => ∃ (k_29 : Int), s = k_29 ∧ I_54 k_29 ∧ I64 k_29 ∧ St w0 H (L) w ∧ Fr 36 [(0, sv s_1), (5, i6 k_29)] a) mu_55 (i_2 + (1 : Int)) ?_ ?_
 exact fun a ha => ⟨(i_2 + (1 : Int)), rfl, hI_80, hi_5, hS, ha.os⟩
 clear hS hI_80
 rintro k_29 a w ⟨_, rfl, hI, hr_30, hS, ha⟩
 refine in_frame ha ?_
 clear ha
 replace hV := hV _ hI
 clear hI
 refine WC.seq (WC.sr ?_)
 iterate 2 refine R hS ?_
 obtain ⟨hl_57, hV⟩ := hV
 iterate 2 refine R hS ?_
 refine WL.nx ?_
 refine Cd ?_ ?_
 intro hc_79
 replace hV := hV.1 (od hc_79)
 refine WC.skip (WQ.next (WC.seq (WC.block (WC.seq (WC.sr ?_)))))
 iterate 2 refine R hS ?_
 obtain ⟨hin_59, hV⟩ := hV
 iterate 2 refine R hS ?_
 refine WL.nx ?_
 refine Cd ?_ ?_
 intro hc_78
 replace hV := hV.1 (od hc_78)
 refine WC.sr (R hS ?_)
 obtain ⟨hi_61, hV⟩ := hV
 iterate 2 refine R hS ?_
 refine WL.nx (Sb [(4, i6 (k_29 + (1 : Int)))] ?_)
 refine WC.ret (Wp ?_)
 refine WQ.out nofun (Wp ?_)
 refine Wp ?_
 refine WQ.out nofun (Wp ?_)
 exact leave1 rfl rfl (⟨(k_29 + (1 : Int)), hV, rfl, hi_61, hS⟩)
 intro hc_78
 replace hV := hV.2 (ov hc_78)
 refine WC.skip (WQ.next ?_)
 obtain ⟨J_68, hJ_69, hV⟩ := hV
 refine WC.meet (fun a w => ∃ (x_67 : Bool), J_68 x_67 ∧ St w0 H (L) w ∧ Fr 36 [(0, sv s_1), (5, i6 k_29), (35, .bool x_67)] a) ?_ ?_
 rintro a w ⟨x_67, hI, hS, ha⟩
 refine in_frame ha ?_
 clear ha hV
 have hV := hJ_69 _ hI
 clear hI hJ_69
 refine Cd ?_ ?_
 intro hc_77
 replace hV := hV.1 hc_77
 refine WC.sr (R hS ?_)
 refine WL.nx (WC.ret (WQ.out nofun (Wp ?_)))
 refine Wp ?_
 refine WQ.out nofun (Wp ?_)
 exact leave1 rfl rfl (⟨(-1), hV, rfl, (show I64 ((-1) : Int) by unfold I64; omega), hS⟩)
 intro hc_77
 replace hV := hV.2 hc_77
 refine WC.skip (WQ.out nofun (WQ.next (WC.region (R hS ?_))))
 obtain ⟨hi_76, hV⟩ := hV
 iterate 2 refine R hS ?_
 refine WL.nil ?_
 exact Wt fun a ha => ⟨(k_29 + (1 : Int)), ⟨(k_29 + (1 : Int)), rfl, hV.1, hi_76, hS, ha.os⟩, hV.2⟩
 clear hJ_69
 refine WC.region ?_
 iterate 2 refine R hS ?_
 obtain ⟨hin_70, hV⟩ := hV
 iterate 3 refine R hS ?_
 rcases bft (decide ((byte s_1 k_29) < (32 : Int))) with hg_71 | hg_71
 replace hV := hV.1 (od hg_71)
 iterate 11 refine R hS ?_
 refine WL.nil ?_
 exact Wt fun a ha => ⟨true, hV, hS, ha.os⟩
 replace hV := hV.2 (ov hg_71)
 iterate 2 refine R hS ?_
 refine Ug hg_71 ?_
 obtain ⟨hin_72, hV⟩ := hV
 iterate 4 refine R hS ?_
 rcases bft (decide ((126 : Int) < (byte s_1 k_29))) with hg_73 | hg_73
 replace hV := hV.1 (od hg_73)
 iterate 5 refine R hS ?_
 refine WL.nil ?_
 exact Wt fun a ha => ⟨true, hV, hS, ha.os⟩
 replace hV := hV.2 (ov hg_73)
 iterate 2 refine R hS ?_
 refine Ug hg_73 ?_
 obtain ⟨hin_74, hV⟩ := hV
 iterate 3 refine R hS ?_
 refine WL.nil ?_
 exact Wt fun a ha => ⟨decide ((byte s_1 k_29) = (92 : Int)), hV, hS, ha.os⟩
 intro hc_79
 replace hV := hV.2 (ov hc_79)
 refine WC.exit (Wp ?_)
 refine Wp ?_
 refine WQ.hit (WQ.next (WC.sr (R hS ?_)))
 refine WL.nx (WC.ret ?_)
 exact leave1 rfl rfl (⟨(-1), hV, rfl, (show I64 ((-1) : Int) by unfold I64; omega), hS⟩)
theorem S_rSize {w0 : World} {H : View} {L : Seg} {w : World} {s_1 : Str} {Q : Int → Bool → Prop}  (hS : St w0 H (L) w) (hV : V_rSize s_1 Q) :
 Calls Tryz.prog 197 #[sv s_1] w fun e w' => ∃ (r1 : Int) (r2 : Bool), Q r1 r2 ∧ e = .returned (.tuple #[.int .u64 r1, .bool r2]) ∧ IntKind.u64.has r1 ∧ St w0 H (L) w' := by
 unfold V_rSize at hV
 refine enter func197 rfl ntmps197 rfl (lk_args_cons (d := 0) (v := sv s_1) rfl (lk_args_nil _)) (WC.sr ?_)
 iterate 2 refine R hS ?_
 refine WL.nx (WC.sr (R hS ?_))
 refine WL.nx (WC.seq (WC.sr (R hS ?_)))
 refine WL.nx (WC.block ?_)
 obtain ⟨I_22, mu_23, hI_33, hV⟩ := hV
 refine WC.loop (σ := Int × Int) (fun s a w => ∃ (n_10 : Int) (i_12 : Int), s = (n_10, i_12) ∧ I_22 (n_10, i_12) ∧ IntKind.u64.has n_10 ∧ I64 i_12 ∧ St w0 H (L) w ∧ Fr 28 [(0, sv s_1), (4, .int .u64 n_10), (5, i6 i_12)] a) mu_23 ((0 : Int), (0 : Int)) ?_ ?_
 exact fun a ha => ⟨(0 : Int), (0 : Int), rfl, hI_33, (has_u64 ⟨by omega, by omega⟩), i0, hS, ha.os⟩
 clear hS hI_33
 rintro _ a w ⟨n_10, i_12, rfl, hI, hr_11, hr_13, hS, ha⟩
 refine in_frame ha ?_
 clear ha
 replace hV := hV _ hI
 clear hI
 refine WC.seq (WC.sr ?_)
 iterate 2 refine R hS ?_
 obtain ⟨hl_25, hV⟩ := hV
 iterate 2 refine R hS ?_
 refine WL.nx ?_
 refine Cd ?_ ?_
 intro hc_32
 replace hV := hV.1 (od hc_32)
 refine WC.skip (WQ.next (WC.seq (WC.block (WC.sr ?_))))
 iterate 2 refine R hS ?_
 obtain ⟨hin_27, hV⟩ := hV
 refine R hS ?_
 refine Rn hS (ex_wrap_sub rfl rfl) ?_
 iterate 2 refine R hS ?_
 refine WL.nx (WC.seq (WC.sr ?_))
 iterate 2 refine R hS ?_
 refine Rn hS (ex_wrap_sub rfl rfl) ?_
 obtain ⟨hi_28, hV⟩ := hV
 refine Rn hS (ex_uquo rfl rfl (wrap_has _ _) hi_28) ?_
 refine R hS ?_
 refine WL.nx (Sb [(0, sv s_1), (4, .int .u64 n_10), (5, i6 i_12), (6, .int .u64 (IntKind.u64.wrap (IntKind.u8.wrap ((byte s_1 i_12) - (48 : Int))))), (22, .bool (decide (((IntKind.u64.wrap ((9223372036854775808 : Int) - (IntKind.u64.wrap (IntKind.u8.wrap ((byte s_1 i_12) - (48 : Int)))))).tdiv (10 : Int)) < n_10)))] ?_)
 refine Cd ?_ ?_
 intro hc_31
 replace hV := hV.1 (od hc_31)
 refine WC.sr ?_
 iterate 2 refine R hS ?_
 refine WL.nx (WC.ret (Wp ?_))
 refine WQ.out nofun (Wp ?_)
 refine Wp ?_
 refine WQ.out nofun (Wp ?_)
 exact leave2 rfl rfl rfl (⟨(0 : Int), false, hV, rfl, (has_u64 ⟨by omega, by omega⟩), hS⟩)
 intro hc_31
 replace hV := hV.2 (ov hc_31)
 refine WC.skip (WQ.next (WC.region (R hS ?_)))
 refine Rn hS (ex_wrap_mul rfl rfl) ?_
 refine R hS ?_
 refine Rn hS (ex_wrap_add rfl rfl) ?_
 refine R hS ?_
 refine WL.nil (WQ.out nofun (WQ.next (WC.region (R hS ?_))))
 obtain ⟨hi_30, hV⟩ := hV
 iterate 2 refine R hS ?_
 refine WL.nil ?_
 exact Wt fun a ha => ⟨((IntKind.u64.wrap ((IntKind.u64.wrap (n_10 * (10 : Int))) + (IntKind.u64.wrap (IntKind.u8.wrap ((byte s_1 i_12) - (48 : Int)))))), (i_12 + (1 : Int))), ⟨(IntKind.u64.wrap ((IntKind.u64.wrap (n_10 * (10 : Int))) + (IntKind.u64.wrap (IntKind.u8.wrap ((byte s_1 i_12) - (48 : Int)))))), (i_12 + (1 : Int)), rfl, hV.1, (wrap_has _ _), hi_30, hS, ha.os⟩, hV.2⟩
 intro hc_32
 replace hV := hV.2 (ov hc_32)
 refine WC.exit (Wp ?_)
 refine Wp ?_
 refine WQ.hit (WQ.next (WC.sr ?_))
 iterate 3 refine R hS ?_
 refine WL.nx (WC.ret ?_)
 exact leave2 rfl rfl rfl (⟨n_10, true, hV, rfl, hr_11, hS⟩)
theorem S_rfail {w0 : World} {H : View} {L : Seg} {w : World} {b_2 : Nat} {s_4 : Str} {xat_5 : Int} {deep_7 : Int} {e_9 : Int} {bad_11 : Int} {heavy_13 : Bool} {e_14 : Int} {xat_16 : Int} {Q : Int → Int → Prop} (hr_6 : I64 xat_5) (hr_8 : I64 deep_7) (hr_10 : I64 e_9) (hr_12 : I64 bad_11) (hr_15 : I64 e_14) (hr_17 : I64 xat_16) (hS : St w0 H ([(b_2, oc #[sv s_4, i6 xat_5, i6 deep_7, i6 e_9, i6 bad_11, .bool heavy_13] 67)] ++ L) w) (hV : V_rfail s_4 xat_5 deep_7 e_9 bad_11 heavy_13 e_14 xat_16 Q) :
 Calls Tryz.prog 28 #[(pq b_2), i6 e_14, i6 xat_16] w fun e w' => ∃ (r1 : Int) (r2 : Int), Q r1 r2 ∧ e = .returned (.tuple #[]) ∧ I64 r1 ∧ I64 r2 ∧ St w0 H ([(b_2, oc #[sv s_4, i6 xat_5, i6 deep_7, i6 r1, i6 r2, .bool heavy_13] 67)] ++ L) w' := by
 unfold V_rfail at hV
 refine enter func28 rfl ntmps28 rfl (lk_args_cons (d := 0) (v := (pq b_2)) rfl (lk_args_cons (d := 1) (v := i6 e_14) rfl (lk_args_cons (d := 2) (v := i6 xat_16) rfl (lk_args_nil _)))) (WC.sr ?_)
 iterate 5 refine R hS ?_
 refine WL.nx ?_
 refine Cd ?_ ?_
 intro hc_19
 replace hV := hV.1 (od hc_19)
 refine WC.sr ?_
 iterate 4 refine R hS ?_
 refine St1 #[sv s_4, i6 xat_5, i6 deep_7, i6 e_14, i6 bad_11, .bool heavy_13] sizeOf3 hS ?_
 clear hS
 intro w hS
 refine WL.nx (Sb [(0, (pq b_2)), (2, i6 xat_16)] ?_)
 refine WC.region ?_
 iterate 4 refine R hS ?_
 refine St1 #[sv s_4, i6 xat_5, i6 deep_7, i6 e_14, i6 xat_16, .bool heavy_13] sizeOf3 hS ?_
 clear hS
 intro w hS
 refine WL.nil ?_
 exact leave0 (.inr rfl) rfl (⟨e_14, xat_16, hV, rfl, hr_15, hr_17, hS⟩)
 intro hc_19
 replace hV := hV.2 (ov hc_19)
 refine WC.skip ?_
 exact leave0 (.inr rfl) rfl (⟨e_9, bad_11, hV, rfl, hr_10, hr_12, hS⟩)
theorem S_rskip {w0 : World} {H : View} {L : Seg} {w : World} {b_2 : Nat} {s_4 : Str} {xat_5 : Int} {deep_7 : Int} {e_9 : Int} {bad_11 : Int} {heavy_13 : Bool} {Q : Int → Prop} (hr_6 : I64 xat_5) (hr_8 : I64 deep_7) (hr_10 : I64 e_9) (hr_12 : I64 bad_11) (hS : St w0 H ([(b_2, oc #[sv s_4, i6 xat_5, i6 deep_7, i6 e_9, i6 bad_11, .bool heavy_13] 67)] ++ L) w) (hV : V_rskip s_4 xat_5 deep_7 e_9 bad_11 heavy_13 Q) :
 Calls Tryz.prog 27 #[(pq b_2)] w fun e w' => ∃ (r1 : Int), Q r1 ∧ e = .returned (.tuple #[]) ∧ I64 r1 ∧ St w0 H ([(b_2, oc #[sv s_4, i6 r1, i6 deep_7, i6 e_9, i6 bad_11, .bool heavy_13] 67)] ++ L) w' := by
 unfold V_rskip at hV
 refine enter func27 rfl ntmps27 rfl (lk_args_cons (d := 0) (v := (pq b_2)) rfl (lk_args_nil _)) (WC.block ?_)
 obtain ⟨I_60, mu_61, hI_85, hV⟩ := hV
 refine WC.loop (σ := Int) (fun s a w => ∃ (c_36 : Int), s = c_36 ∧ I_60 c_36 ∧ I64 c_36 ∧ St w0 H ([(b_2, oc #[sv s_4, i6 c_36, i6 deep_7, i6 e_9, i6 bad_11, .bool heavy_13] 67)] ++ L) w ∧ Fr 56 [(0, (pq b_2))] a) mu_61 xat_5 ?_ ?_
 exact fun a ha => ⟨xat_5, rfl, hI_85, hr_6, hS, ha.os⟩
 clear hS hI_85
 rintro c_36 a w ⟨_, rfl, hI, hr_37, hS, ha⟩
 refine in_frame ha ?_
 clear ha
 replace hV := hV _ hI
 clear hI
 refine WC.seq ?_
 obtain ⟨J_72, hJ_73, hV⟩ := hV
 refine WC.meet (fun a w => ∃ (x_71 : Bool), J_72 x_71 ∧ St w0 H ([(b_2, oc #[sv s_4, i6 c_36, i6 deep_7, i6 e_9, i6 bad_11, .bool heavy_13] 67)] ++ L) w ∧ Fr 56 [(0, (pq b_2)), (47, .bool x_71)] a) ?_ ?_
 rintro a w ⟨x_71, hI, hS, ha⟩
 refine in_frame ha ?_
 clear ha hV
 have hV := hJ_73 _ hI
 clear hI hJ_73
 refine Cd ?_ ?_
 intro hc_84
 replace hV := hV.1 hc_84
 refine WC.skip (WQ.next (WC.block (WC.region ?_)))
 iterate 5 refine R hS ?_
 obtain ⟨hi_83, hV⟩ := hV
 iterate 3 refine R hS ?_
 refine St1 #[sv s_4, i6 (c_36 + (1 : Int)), i6 deep_7, i6 e_9, i6 bad_11, .bool heavy_13] sizeOf3 hS ?_
 clear hS
 intro w hS
 refine WL.nil (WQ.out nofun ?_)
 exact Wt fun a ha => ⟨(c_36 + (1 : Int)), ⟨(c_36 + (1 : Int)), rfl, hV.1, hi_83, hS, ha.os⟩, hV.2⟩
 intro hc_84
 replace hV := hV.2 hc_84
 refine WC.exit (Wp ?_)
 refine Wp ?_
 refine WQ.hit ?_
 exact leave0 (.inr rfl) rfl (⟨c_36, hV, rfl, hr_37, hS⟩)
 clear hJ_73
 refine WC.quiet (C := St w0 H ([(b_2, oc #[sv s_4, i6 c_36, i6 deep_7, i6 e_9, i6 bad_11, .bool heavy_13] 67)] ++ L)) mixed (by kernel_rfl) (hS.drawn _) ?_
 clear hS w
 iterate 8 refine Rq ?_
 obtain ⟨hl_74, hV⟩ := hV
 iterate 3 refine Rq ?_
 rcases bft (decide (c_36 < (s_4.length : Int))) with hg_76 | hg_76
 replace hV := hV.1 (od hg_76)
 iterate 8 refine Rq ?_
 refine Uq hg_76 ?_
 obtain ⟨hin_77, hV⟩ := hV
 iterate 3 refine Rq ?_
 rcases bft (decide ((byte s_4 c_36) = (32 : Int))) with hg_78 | hg_78
 replace hV := hV.1 (od hg_78)
 iterate 24 refine Rq ?_
 refine Wq.nil fun w hS => ?_
 exact Wt fun a ha => ⟨true, hV, hS, ha.os⟩
 replace hV := hV.2 (ov hg_78)
 iterate 8 refine Rq ?_
 refine Uq hg_78 ?_
 obtain ⟨hin_79, hV⟩ := hV
 iterate 4 refine Rq ?_
 rcases bft (decide ((byte s_4 c_36) = (9 : Int))) with hg_80 | hg_80
 replace hV := hV.1 (od hg_80)
 iterate 12 refine Rq ?_
 refine Wq.nil fun w hS => ?_
 exact Wt fun a ha => ⟨true, hV, hS, ha.os⟩
 replace hV := hV.2 (ov hg_80)
 iterate 8 refine Rq ?_
 refine Uq hg_80 ?_
 obtain ⟨hin_81, hV⟩ := hV
 iterate 4 refine Rq ?_
 refine Wq.nil fun w hS => ?_
 exact Wt fun a ha => ⟨decide ((byte s_4 c_36) = (10 : Int)), hV, hS, ha.os⟩
 replace hV := hV.2 (ov hg_76)
 iterate 35 refine Rq ?_
 refine Wq.nil fun w hS => ?_
 exact Wt fun a ha => ⟨false, hV, hS, ha.os⟩
theorem S_rsign {w0 : World} {H : View} {L : Seg} {w : World} {b_2 : Nat} {s_4 : Str} {xat_5 : Int} {deep_7 : Int} {e_9 : Int} {bad_11 : Int} {heavy_13 : Bool} {t_14 : Str} {Q : Bool → Int → Prop} (hr_6 : I64 xat_5) (hr_8 : I64 deep_7) (hr_10 : I64 e_9) (hr_12 : I64 bad_11) (hS : St w0 H ([(b_2, oc #[sv s_4, i6 xat_5, i6 deep_7, i6 e_9, i6 bad_11, .bool heavy_13] 67)] ++ L) w) (hV : V_rsign s_4 xat_5 deep_7 e_9 bad_11 heavy_13 t_14 Q) :
 Calls Tryz.prog 68 #[(pq b_2), sv t_14] w fun e w' => ∃ (r1 : Bool) (r2 : Int), Q r1 r2 ∧ e = .returned (.bool r1) ∧ I64 r2 ∧ St w0 H ([(b_2, oc #[sv s_4, i6 r2, i6 deep_7, i6 e_9, i6 bad_11, .bool heavy_13] 67)] ++ L) w' := by
 unfold V_rsign at hV
 refine enter func68 rfl ntmps68 rfl (lk_args_cons (d := 0) (v := (pq b_2)) rfl (lk_args_cons (d := 1) (v := sv t_14) rfl (lk_args_nil _))) (WC.sr (R hS ?_))
 refine WL.nx (WC.sr (R hS ?_))
 refine Rc (enters0 (vs := [(pq b_2)]) call27 ⟨rfl, trivial⟩) (S_rskip hr_6 hr_8 hr_10 hr_12 hS hV) ?_
 clear hV hS
 rintro _ w ⟨r_15, hV, rfl, hr_16, hS⟩
 refine ⟨_, rfl, ?_⟩
 refine WL.nx (WC.seq ?_)
 obtain ⟨J_31, hJ_32, hV⟩ := hV
 refine WC.meet (fun a w => ∃ (x_30 : Bool), J_31 x_30 ∧ St w0 H ([(b_2, oc #[sv s_4, i6 r_15, i6 deep_7, i6 e_9, i6 bad_11, .bool heavy_13] 67)] ++ L) w ∧ Fr 57 [(0, (pq b_2)), (1, sv t_14), (46, .bool x_30)] a) ?_ ?_
 rintro a w ⟨x_30, hI, hS, ha⟩
 refine in_frame ha ?_
 clear ha hV
 have hV := hJ_32 _ hI
 clear hI hJ_32
 refine Cd ?_ ?_
 intro hc_48
 replace hV := hV.1 hc_48
 refine WC.sr (R hS ?_)
 refine WL.nx (WC.ret (Wp ?_))
 exact leave1 rfl rfl (⟨false, r_15, hV, rfl, hr_16, hS⟩)
 intro hc_48
 replace hV := hV.2 hc_48
 refine WC.skip (WQ.next (WC.sr ?_))
 iterate 6 refine R hS ?_
 obtain ⟨hl_45, hV⟩ := hV
 refine R hS ?_
 obtain ⟨hi_47, hV⟩ := hV
 iterate 3 refine R hS ?_
 refine St1 #[sv s_4, i6 (r_15 + (t_14.length : Int)), i6 deep_7, i6 e_9, i6 bad_11, .bool heavy_13] sizeOf3 hS ?_
 clear hS
 intro w hS
 refine WL.nx (WC.sub (m := []) trivial (WC.sr (R hS ?_)))
 refine WL.nx (WC.ret ?_)
 exact leave1 rfl rfl (⟨true, (r_15 + (t_14.length : Int)), hV, rfl, hi_47, hS⟩)
 clear hJ_32
 refine WC.quiet (C := St w0 H ([(b_2, oc #[sv s_4, i6 r_15, i6 deep_7, i6 e_9, i6 bad_11, .bool heavy_13] 67)] ++ L)) mixed (by kernel_rfl) (hS.drawn _) ?_
 clear hS w
 iterate 6 refine Rq ?_
 rcases bft (decide (e_9 ≠ (0 : Int))) with hg_34 | hg_34
 replace hV := hV.1 (od hg_34)
 iterate 34 refine Rq ?_
 refine Wq.nil fun w hS => ?_
 exact Wt fun a ha => ⟨true, hV, hS, ha.os⟩
 replace hV := hV.2 (ov hg_34)
 iterate 4 refine Rq ?_
 refine Uq hg_34 ?_
 obtain ⟨hl_35, hV⟩ := hV
 iterate 5 refine Rq ?_
 refine Uq hg_34 ?_
 obtain ⟨hi_37, hV⟩ := hV
 iterate 2 refine Rq ?_
 refine Uq hg_34 ?_
 obtain ⟨hl_38, hV⟩ := hV
 iterate 4 refine Rq ?_
 rcases bft (decide (((s_4.length : Int) - r_15) < (t_14.length : Int))) with hg_40 | hg_40
 replace hV := hV.1 (od hg_40)
 iterate 19 refine Rq ?_
 refine Wq.nil fun w hS => ?_
 exact Wt fun a ha => ⟨true, hV, hS, ha.os⟩
 replace hV := hV.2 (ov hg_40)
 iterate 13 refine Rq ?_
 refine Uq hg_40 ?_
 obtain ⟨hl_41, hV⟩ := hV
 refine Rq ?_
 refine Uq hg_40 ?_
 obtain ⟨hi_43, hV⟩ := hV
 refine Rq ?_
 refine Uq hg_40 ?_
 obtain ⟨hb_44, hV⟩ := hV
 refine Rm (ex_s_lohi underlying9 rfl rfl rfl hb_44) ?_
 iterate 3 refine Rq ?_
 refine Wq.nil fun w hS => ?_
 exact Wt fun a ha => ⟨decide (((s_4.take (r_15 + (t_14.length : Int)).toNat).drop r_15.toNat) ≠ t_14), hV, hS, ha.os⟩
theorem S_rwant {w0 : World} {H : View} {L : Seg} {w : World} {b_2 : Nat} {s_4 : Str} {xat_5 : Int} {deep_7 : Int} {e_9 : Int} {bad_11 : Int} {heavy_13 : Bool} {t_14 : Str} {Q : Int → Int → Int → Prop} (hr_6 : I64 xat_5) (hr_8 : I64 deep_7) (hr_10 : I64 e_9) (hr_12 : I64 bad_11) (hS : St w0 H ([(b_2, oc #[sv s_4, i6 xat_5, i6 deep_7, i6 e_9, i6 bad_11, .bool heavy_13] 67)] ++ L) w) (hV : V_rwant s_4 xat_5 deep_7 e_9 bad_11 heavy_13 t_14 Q) :
 Calls Tryz.prog 110 #[(pq b_2), sv t_14] w fun e w' => ∃ (r1 : Int) (r2 : Int) (r3 : Int), Q r1 r2 r3 ∧ e = .returned (.tuple #[]) ∧ I64 r1 ∧ I64 r2 ∧ I64 r3 ∧ St w0 H ([(b_2, oc #[sv s_4, i6 r1, i6 deep_7, i6 r2, i6 r3, .bool heavy_13] 67)] ++ L) w' := by
 unfold V_rwant at hV
 refine enter func110 rfl ntmps110 rfl (lk_args_cons (d := 0) (v := (pq b_2)) rfl (lk_args_cons (d := 1) (v := sv t_14) rfl (lk_args_nil _))) (WC.sr ?_)
 iterate 2 refine R hS ?_
 refine Rc (enters0 (vs := [(pq b_2), sv t_14]) call68 ⟨rfl, rfl, trivial⟩) (S_rsign hr_6 hr_8 hr_10 hr_12 hS hV) ?_
 clear hV hS
 rintro _ w ⟨r_15, r_16, hV, rfl, hr_17, hS⟩
 refine ⟨_, rfl, ?_⟩
 refine R hS ?_
 refine WL.nx (WC.sr ?_)
 iterate 2 refine R hS ?_
 refine WL.nx ?_
 refine Cd ?_ ?_
 intro hc_24
 replace hV := hV.1 hc_24
 refine WC.region ?_
 iterate 5 refine R hS ?_
 refine Rc (enters0 (vs := [(pq b_2), i6 (1 : Int), i6 r_16]) call28 ⟨rfl, rfl, rfl, trivial⟩) (S_rfail hr_17 hr_8 hr_10 hr_12 (show I64 (1 : Int) by unfold I64; omega) hr_17 hS hV) ?_
 clear hV hS
 rintro _ w ⟨r_19, r_21, hV, rfl, hr_20, hr_22, hS⟩
 refine ⟨_, rfl, ?_⟩
 refine WL.nil ?_
 exact leave0 (.inr rfl) rfl (⟨r_16, r_19, r_21, hV, rfl, hr_17, hr_20, hr_22, hS⟩)
 intro hc_24
 replace hV := hV.2 hc_24
 refine WC.skip ?_
 exact leave0 (.inr rfl) rfl (⟨r_16, e_9, bad_11, hV, rfl, hr_17, hr_10, hr_12, hS⟩)
theorem S_rlight {w0 : World} {H : View} {L : Seg} {w : World} {b_2 : Nat} {s_4 : Str} {xat_5 : Int} {deep_7 : Int} {e_9 : Int} {bad_11 : Int} {heavy_13 : Bool} {v_14 : RV} {v_15 : Value} {v_16 : Value} {Q : RV → Bool → Prop} (hr_6 : I64 xat_5) (hr_8 : I64 deep_7) (hr_10 : I64 e_9) (hr_12 : I64 bad_11) (hr_17 : I64 v_14.k) (hr_18 : I64 v_14.i) (h_19 : IsSl H cR v_15 v_14.ks) (h_20 : IsSl H cR v_16 v_14.vs) (hS : St w0 H ([(b_2, oc #[sv s_4, i6 xat_5, i6 deep_7, i6 e_9, i6 bad_11, .bool heavy_13] 67)] ++ L) w) (hV : V_rlight s_4 xat_5 deep_7 e_9 bad_11 heavy_13 v_14 Q) :
 Calls Tryz.prog 70 #[(pq b_2), .agg #[i6 v_14.k, i6 v_14.i, sv v_14.t, v_15, v_16]] w fun e w' => ∃ (r1 : RV) (r2 : Bool) (u1 : Value) (w1 : Value) (H' : View), Q r1 r2 ∧ e = .returned (.agg #[i6 r1.k, i6 r1.i, sv r1.t, u1, w1]) ∧ View.le H H' ∧ I64 r1.k ∧ I64 r1.i ∧ IsSl H' cR u1 r1.ks ∧ IsSl H' cR w1 r1.vs ∧ St w0 H' ([(b_2, oc #[sv s_4, i6 xat_5, i6 deep_7, i6 e_9, i6 bad_11, .bool r2] 67)] ++ L) w' := by
 unfold V_rlight at hV
 refine enter func70 rfl ntmps70 rfl (lk_args_cons (d := 0) (v := (pq b_2)) rfl (lk_args_cons (d := 1) (v := .agg #[i6 v_14.k, i6 v_14.i, sv v_14.t, v_15, v_16]) rfl (lk_args_nil _))) (WC.sr (WL.box (arr := #[i6 v_14.k, i6 v_14.i, sv v_14.t, v_15, v_16]) rfl rfl rfl hS ?_))
 clear hS
 intro b_21 w hS
 refine WL.alloc (arr := #[i6 0, i6 0, sv ([] : Str), ns, ns]) rfl zeroValue32 rfl hS ?_
 clear hS
 intro b_23 w hS
 refine WL.nx ?_
 obtain ⟨J_30, hJ_31, hV⟩ := hV
 refine WC.meet (fun a w => ∃ (c_29 : Bool), J_30 c_29 ∧ St w0 H ([(b_21, oc #[i6 v_14.k, i6 v_14.i, sv v_14.t, v_15, v_16] 32)] ++ ([(b_23, Obj.cells #[i6 0, i6 0, sv ([] : Str), ns, ns] 32 (0, 0))] ++ ([(b_2, oc #[sv s_4, i6 xat_5, i6 deep_7, i6 e_9, i6 bad_11, .bool c_29] 67)] ++ L))) w ∧ Fr 12 [(3, (pq b_21)), (4, (pq b_23))] a) ?_ ?_
 rintro a w ⟨c_29, hI, hS, ha⟩
 refine in_frame ha ?_
 clear ha hV
 have hV := hJ_31 _ hI
 clear hI hJ_31
 refine WC.sr (Rn hS (ex_load_box_agg (cs := [i6 v_14.k, i6 v_14.i, sv v_14.t, v_15, v_16]) isAgg32 sizeOf32 rfl rfl rfl) ?_)
 replace hS := hS.f2
 refine St1 #[i6 v_14.k, i6 v_14.i, sv v_14.t, v_15, v_16] sizeOf32 hS ?_ (cs := [i6 v_14.k, i6 v_14.i, sv v_14.t, v_15, v_16]) (hone := ⟨rfl, rfl, rfl, (IsSl.one h_19), (IsSl.one h_20), trivial⟩)
 clear hS
 intro w hS
 refine WL.nx ?_
 replace hS := hS.f2.drop
 refine WC.ret ?_
 have hl_34 := load_own_agg (P := Tryz.prog) (cs := [i6 v_14.k, i6 v_14.i, sv v_14.t, v_15, v_16]) isAgg32 sizeOf32 hS rfl
 replace hS := hS.drop
 exact leavec1 (il) rfl rfl hl_34 (⟨v_14, c_29, v_15, v_16, H, hV, rfl, (View.le.refl _), hr_17, hr_18, h_19, h_20, hS⟩)
 clear hJ_31
 refine WC.sr (R hS ?_)
 replace hS := hS.f2
 iterate 2 refine R hS ?_
 refine WL.nx ?_
 refine Cd ?_ ?_
 intro hc_33
 replace hV := hV.1 (od hc_33)
 refine WC.region ?_
 iterate 3 refine R hS ?_
 replace hS := hS.f3
 refine St1 #[sv s_4, i6 xat_5, i6 deep_7, i6 e_9, i6 bad_11, .bool true] sizeOf4 hS ?_
 clear hS
 intro w hS
 refine WL.nil ?_
 replace hS := hS.f3.f3
 exact Wt fun a ha => ⟨true, hV, hS, ha.os⟩
 intro hc_33
 replace hV := hV.2 (ov hc_33)
 refine WC.skip ?_
 replace hS := hS.f3.f3.f3
 exact Wt fun a ha => ⟨heavy_13, hV, hS, ha.os⟩
theorem S_rnumber {w0 : World} {H : View} {L : Seg} {w : World} {b_2 : Nat} {s_4 : Str} {xat_5 : Int} {deep_7 : Int} {e_9 : Int} {bad_11 : Int} {heavy_13 : Bool} {w_14 : Str} {minus_15 : Bool} {i_16 : Int} {xend_18 : Int} {Q : RV → Int → Int → Int → Prop} (hr_6 : I64 xat_5) (hr_8 : I64 deep_7) (hr_10 : I64 e_9) (hr_12 : I64 bad_11) (hr_17 : I64 i_16) (hr_19 : I64 xend_18) (hS : St w0 H ([(b_2, oc #[sv s_4, i6 xat_5, i6 deep_7, i6 e_9, i6 bad_11, .bool heavy_13] 67)] ++ L) w) (hV : V_rnumber s_4 xat_5 deep_7 e_9 bad_11 heavy_13 w_14 minus_15 i_16 xend_18 Q) :
 Calls Tryz.prog 114 #[(pq b_2), sv w_14, .bool minus_15, i6 i_16, i6 xend_18] w fun e w' => ∃ (r1 : RV) (r2 : Int) (r3 : Int) (r4 : Int) (u1 : Value) (w1 : Value) (H' : View), Q r1 r2 r3 r4 ∧ e = .returned (.agg #[i6 r1.k, i6 r1.i, sv r1.t, u1, w1]) ∧ View.le H H' ∧ I64 r1.k ∧ I64 r1.i ∧ IsSl H' cR u1 r1.ks ∧ IsSl H' cR w1 r1.vs ∧ I64 r2 ∧ I64 r3 ∧ I64 r4 ∧ St w0 H' ([(b_2, oc #[sv s_4, i6 r2, i6 deep_7, i6 r3, i6 r4, .bool heavy_13] 67)] ++ L) w' := by
 unfold V_rnumber at hV
 refine enter func114 rfl ntmps114 rfl (lk_args_cons (d := 0) (v := (pq b_2)) rfl (lk_args_cons (d := 1) (v := sv w_14) rfl (lk_args_cons (d := 2) (v := .bool minus_15) rfl (lk_args_cons (d := 3) (v := i6 i_16) rfl (lk_args_cons (d := 4) (v := i6 xend_18) rfl (lk_args_nil _)))))) (WC.sr (WL.alloc (arr := #[i6 0, i6 0, sv ([] : Str), ns, ns]) rfl zeroValue32 rfl hS ?_))
 clear hS
 intro b_20 w hS
 refine WL.nx ?_
 obtain ⟨J_30, hJ_31, hV⟩ := hV
 refine WC.meet (fun a w => ∃ (ok_29 : Bool), J_30 ok_29 ∧ St w0 H ([(b_2, oc #[sv s_4, i6 xat_5, i6 deep_7, i6 e_9, i6 bad_11, .bool heavy_13] 67)] ++ ([(b_20, Obj.cells #[i6 0, i6 0, sv ([] : Str), ns, ns] 32 (0, 0))] ++ L)) w ∧ Fr 77 [(0, (pq b_2)), (1, sv w_14), (2, .bool minus_15), (3, i6 i_16), (4, i6 xend_18), (10, (pq b_20)), (11, .bool ok_29)] a) ?_ ?_
 rintro a w ⟨ok_29, hI, hS, ha⟩
 refine in_frame ha ?_
 clear ha hV
 have hV := hJ_31 _ hI
 clear hI hJ_31
 refine WC.seq (WC.sr (R hS ?_))
 refine WL.nx (WC.block ?_)
 replace hS := hS.f2.f2
 obtain ⟨I_58, mu_59, hI_110, hV⟩ := hV
 refine WC.loop (σ := Bool × Int) (fun s a w => ∃ (ok_46 : Bool) (k_47 : Int), s = (ok_46, k_47) ∧ I_58 (ok_46, k_47) ∧ I64 k_47 ∧ St w0 H ([(b_2, oc #[sv s_4, i6 xat_5, i6 deep_7, i6 e_9, i6 bad_11, .bool heavy_13] 67)] ++ ([(b_20, Obj.cells #[i6 0, i6 0, sv ([] : Str), ns, ns] 32 (0, 0))] ++ L)) w ∧ Fr 77 [(0, (pq b_2)), (1, sv w_14), (2, .bool minus_15), (3, i6 i_16), (4, i6 xend_18), (10, (pq b_20)), (11, .bool ok_46), (12, i6 k_47)] a) mu_59 (ok_29, (0 : Int)) ?_ ?_
 exact fun a ha => ⟨ok_29, (0 : Int), rfl, hI_110, i0, hS, ha.os⟩
 clear hS hI_110
 rintro _ a w ⟨ok_46, k_47, rfl, hI, hr_48, hS, ha⟩
 refine in_frame ha ?_
 clear ha
 replace hV := hV _ hI
 clear hI
 refine WC.seq (WC.sr ?_)
 iterate 2 refine R hS ?_
 obtain ⟨hl_61, hV⟩ := hV
 iterate 2 refine R hS ?_
 refine WL.nx ?_
 refine Cd ?_ ?_
 intro hc_109
 replace hV := hV.1 (od hc_109)
 refine WC.skip (WQ.next (WC.seq (WC.block (WC.sr ?_))))
 iterate 2 refine R hS ?_
 obtain ⟨hin_63, hV⟩ := hV
 refine R hS ?_
 refine Rc (enters0 (vs := [.int .u8 (byte w_14 k_47)]) call113 ⟨rfl, trivial⟩) (S_rDigit (byte_has (x := w_14) (i := k_47)) hS hV) ?_
 clear hV hS
 rintro _ w ⟨r_64, hV, rfl, hS⟩
 refine ⟨_, rfl, ?_⟩
 refine R hS ?_
 refine WL.nx ?_
 refine WC.via (m := [(0, (pq b_2)), (1, sv w_14), (2, .bool minus_15), (3, i6 i_16), (4, i6 xend_18), (10, (pq b_20)), (11, .bool (decide ((ok_46 = true) ∧ (r_64 = true)))), (12, i6 k_47)]) ?_ ?_
 refine WC.region ?_
 iterate 2 refine R hS ?_
 rcases bft ok_46 with hg_66 | hg_66
 iterate 2 refine R hS ?_
 refine WL.up (s := 41) rfl ((dec_true _).trans (and_t ((dec_true _).symm.trans hg_66) : decide (r_64 = true) = decide ((ok_46 = true) ∧ (r_64 = true)))) (R hS ?_)
 exact WL.nil At.os
 iterate 2 refine R hS ?_
 refine WL.up (s := 41) rfl (and_f ((dec_true _).symm.trans hg_66) : false = decide ((ok_46 = true) ∧ (r_64 = true))) (R hS ?_)
 exact WL.nil At.os
 refine WQ.out nofun (WQ.next (WC.region (R hS ?_)))
 obtain ⟨hi_68, hV⟩ := hV
 iterate 2 refine R hS ?_
 refine WL.nil ?_
 replace hS := hS.f2.f2
 exact Wt fun a ha => ⟨(decide ((ok_46 = true) ∧ (r_64 = true)), (k_47 + (1 : Int))), ⟨decide ((ok_46 = true) ∧ (r_64 = true)), (k_47 + (1 : Int)), rfl, hV.1, hi_68, hS, ha.os⟩, hV.2⟩
 intro hc_109
 replace hV := hV.2 (ov hc_109)
 refine WC.exit (Wp ?_)
 refine Wp ?_
 refine WQ.hit (WQ.next (WC.seq (WC.sr ?_)))
 iterate 2 refine R hS ?_
 refine WL.nx ?_
 refine Cd ?_ ?_
 intro hc_108
 replace hV := hV.1 hc_108
 refine WC.sr ?_
 iterate 2 refine R hS ?_
 refine Rc (enters0 (vs := [(pq b_2), i6 (1 : Int), i6 i_16]) call28 ⟨rfl, rfl, rfl, trivial⟩) (S_rfail hr_6 hr_8 hr_10 hr_12 (show I64 (1 : Int) by unfold I64; omega) hr_17 hS hV) ?_
 clear hV hS
 rintro _ w ⟨r_69, r_71, hV, rfl, hr_70, hr_72, hS⟩
 refine ⟨_, rfl, ?_⟩
 refine WL.nx (Sb [(10, (pq b_20))] ?_)
 refine WC.sr (Rn hS (ex_build (vs := []) (zc := #[i6 0, i6 0, sv ([] : Str), ns, ns]) (cs := #[i6 0, i6 0, sv ([] : Str), ns, ns]) (places := #[(0, 1), (1, 1), (2, 1), (3, 1), (4, 1)]) underlying32 zeroValue32 (fun w => by simp [sizeOf2, sizeOf3, sizeOf30, sizeOf9]) rfl trivial rfl (by simp [Instr.fill, cells_int, cells_bool, cells_iface, cells_niliface, cells_slice, str_cells])) ?_)
 replace hS := hS.f2
 refine St1 #[i6 0, i6 0, sv ([] : Str), ns, ns] sizeOf32 hS ?_
 clear hS
 intro w hS
 refine WL.nx (WC.ret (Wp ?_))
 have hl_76 := load_own_agg (P := Tryz.prog) (cs := [i6 0, i6 0, sv ([] : Str), ns, ns]) isAgg32 sizeOf32 hS rfl
 replace hS := hS.drop
 exact leavec1 (il) rfl rfl hl_76 (⟨(RV.mk 0 0 ([] : Str) ([] : List RV) ([] : List RV)), xat_5, r_69, r_71, ns, ns, H, hV, rfl, (View.le.refl _), i0, i0, IsSl.nil, IsSl.nil, hr_6, hr_70, hr_72, hS⟩)
 intro hc_108
 replace hV := hV.2 hc_108
 refine WC.skip (WQ.next (WC.sr (R hS ?_)))
 refine Rc (enters0 (vs := [sv w_14]) call197 ⟨rfl, trivial⟩) (S_rSize  hS hV) ?_
 clear hV hS
 rintro _ w ⟨r_77, r_79, hV, rfl, hr_78, hS⟩
 refine ⟨_, rfl, ?_⟩
 iterate 5 refine R hS ?_
 refine WL.nx (Sb [(0, (pq b_2)), (2, .bool minus_15), (3, i6 i_16), (4, i6 xend_18), (10, (pq b_20)), (14, .int .u64 r_77), (15, .bool r_79)] ?_)
 refine WC.seq (WC.seq ?_)
 refine WC.via (m := [(0, (pq b_2)), (2, .bool minus_15), (3, i6 i_16), (4, i6 xend_18), (10, (pq b_20)), (14, .int .u64 r_77), (62, .bool (decide (((!r_79) = true) ∨ ((r_77 = (9223372036854775808 : Int)) ∧ ((!minus_15) = true)))))]) ?_ ?_
 refine WC.region ?_
 iterate 3 refine R hS ?_
 rcases bft (!r_79) with hg_81 | hg_81
 iterate 7 refine R hS ?_
 refine WL.up (s := 62) rfl (or_t ((dec_true _).symm.trans hg_81) : true = decide (((!r_79) = true) ∨ ((r_77 = (9223372036854775808 : Int)) ∧ ((!minus_15) = true)))) ?_
 exact WL.nil At.os
 iterate 3 refine R hS ?_
 rcases bft (decide (r_77 = (9223372036854775808 : Int))) with hg_82 | hg_82
 iterate 3 refine R hS ?_
 refine WL.up (s := 61) rfl ((dec_true _).trans (and_t hg_82 : decide ((!minus_15) = true) = decide ((r_77 = (9223372036854775808 : Int)) ∧ ((!minus_15) = true)))) (R hS ?_)
 refine WL.up (s := 62) rfl (or_f ((dec_true _).symm.trans hg_81) : decide ((r_77 = (9223372036854775808 : Int)) ∧ ((!minus_15) = true)) = decide (((!r_79) = true) ∨ ((r_77 = (9223372036854775808 : Int)) ∧ ((!minus_15) = true)))) ?_
 exact WL.nil At.os
 iterate 3 refine R hS ?_
 refine WL.up (s := 61) rfl (and_f hg_82 : false = decide ((r_77 = (9223372036854775808 : Int)) ∧ ((!minus_15) = true))) (R hS ?_)
 refine WL.up (s := 62) rfl (or_f ((dec_true _).symm.trans hg_81) : decide ((r_77 = (9223372036854775808 : Int)) ∧ ((!minus_15) = true)) = decide (((!r_79) = true) ∨ ((r_77 = (9223372036854775808 : Int)) ∧ ((!minus_15) = true)))) ?_
 exact WL.nil At.os
 refine WQ.next ?_
 refine Cd ?_ ?_
 intro hc_107
 replace hV := hV.1 (od hc_107)
 refine WC.sr ?_
 iterate 2 refine R hS ?_
 refine Rc (enters0 (vs := [(pq b_2), i6 (5 : Int), i6 i_16]) call28 ⟨rfl, rfl, rfl, trivial⟩) (S_rfail hr_6 hr_8 hr_10 hr_12 (show I64 (5 : Int) by unfold I64; omega) hr_17 hS hV) ?_
 clear hV hS
 rintro _ w ⟨r_83, r_85, hV, rfl, hr_84, hr_86, hS⟩
 refine ⟨_, rfl, ?_⟩
 refine WL.nx (WC.sr (Rn hS (ex_build (vs := []) (zc := #[i6 0, i6 0, sv ([] : Str), ns, ns]) (cs := #[i6 0, i6 0, sv ([] : Str), ns, ns]) (places := #[(0, 1), (1, 1), (2, 1), (3, 1), (4, 1)]) underlying32 zeroValue32 (fun w => by simp [sizeOf2, sizeOf3, sizeOf30, sizeOf9]) rfl trivial rfl (by simp [Instr.fill, cells_int, cells_bool, cells_iface, cells_niliface, cells_slice, str_cells])) ?_))
 replace hS := hS.f2
 refine St1 #[i6 0, i6 0, sv ([] : Str), ns, ns] sizeOf32 hS ?_
 clear hS
 intro w hS
 refine WL.nx (Sb [(10, (pq b_20))] ?_)
 refine WC.ret (Wp ?_)
 have hl_90 := load_own_agg (P := Tryz.prog) (cs := [i6 0, i6 0, sv ([] : Str), ns, ns]) isAgg32 sizeOf32 hS rfl
 replace hS := hS.drop
 exact leavec1 (il) rfl rfl hl_90 (⟨(RV.mk 0 0 ([] : Str) ([] : List RV) ([] : List RV)), xat_5, r_83, r_85, ns, ns, H, hV, rfl, (View.le.refl _), i0, i0, IsSl.nil, IsSl.nil, hr_6, hr_84, hr_86, hS⟩)
 intro hc_107
 replace hV := hV.2 (ov hc_107)
 refine WC.skip (WQ.next (WC.sr ?_))
 iterate 4 refine R hS ?_
 refine St1 #[sv s_4, i6 xend_18, i6 deep_7, i6 e_9, i6 bad_11, .bool heavy_13] sizeOf3 hS ?_
 clear hS
 intro w hS
 refine WL.nx ?_
 obtain ⟨J_94, hJ_95, hV⟩ := hV
 refine WC.meet (fun a w => ∃ (n_92 : Int), J_94 n_92 ∧ IntKind.u64.has n_92 ∧ St w0 H ([(b_20, Obj.cells #[i6 0, i6 0, sv ([] : Str), ns, ns] 32 (0, 0))] ++ ([(b_2, oc #[sv s_4, i6 xend_18, i6 deep_7, i6 e_9, i6 bad_11, .bool heavy_13] 67)] ++ L)) w ∧ Fr 77 [(10, (pq b_20)), (14, .int .u64 n_92)] a) ?_ ?_
 rintro a w ⟨n_92, hI, hr_93, hS, ha⟩
 refine in_frame ha ?_
 clear ha hV
 have hV := hJ_95 _ hI
 clear hI hJ_95
 refine WC.sr ?_
 iterate 2 refine R hS ?_
 refine Rc (enters0 (vs := [i6 (IntKind.i64.wrap n_92)]) call81 ⟨rfl, trivial⟩) (S_rNumber (wrap_I64 _) hS hV) ?_
 clear hV hS
 rintro _ w ⟨r_97, v_98, v_99, H_104, hV, rfl, le_105, hr_100, hr_101, h_102, h_103, hS⟩
 refine ⟨_, rfl, ?_⟩
 refine St1 #[i6 r_97.k, i6 r_97.i, sv r_97.t, v_98, v_99] sizeOf32 hS ?_ (cs := [i6 r_97.k, i6 r_97.i, sv r_97.t, v_98, v_99]) (hone := ⟨rfl, rfl, rfl, (IsSl.one h_102), (IsSl.one h_103), trivial⟩)
 clear hS
 intro w hS
 refine WL.nx (WC.ret ?_)
 have hl_106 := load_own_agg (P := Tryz.prog) (cs := [i6 r_97.k, i6 r_97.i, sv r_97.t, v_98, v_99]) isAgg32 sizeOf32 hS rfl
 replace hS := hS.drop
 exact leavec1 (il) rfl rfl hl_106 (⟨r_97, xend_18, e_9, bad_11, v_98, v_99, H_104, hV, rfl, ((View.le.refl _).trans le_105), hr_100, hr_101, h_102, h_103, hr_19, hr_10, hr_12, hS⟩)
 clear hJ_95
 refine WC.sr (R hS ?_)
 refine WL.nx ?_
 refine Cd ?_ ?_
 intro hc_96
 replace hV := hV.1 hc_96
 refine WC.region (R hS ?_)
 refine Rn hS (ex_wrap_neg rfl) ?_
 refine R hS ?_
 refine WL.nil ?_
 replace hS := hS.f2
 exact Wt fun a ha => ⟨(IntKind.u64.wrap (-r_77)), hV, (wrap_has _ _), hS, ha.os⟩
 intro hc_96
 replace hV := hV.2 hc_96
 refine WC.skip ?_
 replace hS := hS.f2
 exact Wt fun a ha => ⟨r_77, hV, hr_78, hS, ha.os⟩
 clear hJ_31
 refine WC.region (R hS ?_)
 obtain ⟨hin_32, hV⟩ := hV
 iterate 3 refine R hS ?_
 rcases bft (decide ((byte w_14 (0 : Int)) ≠ (48 : Int))) with hg_33 | hg_33
 replace hV := hV.1 (od hg_33)
 iterate 9 refine R hS ?_
 refine WL.nil ?_
 replace hS := hS.f2
 exact Wt fun a ha => ⟨true, hV, hS, ha.os⟩
 replace hV := hV.2 (ov hg_33)
 refine R hS ?_
 refine Ug hg_33 ?_
 obtain ⟨hl_34, hV⟩ := hV
 iterate 3 refine R hS ?_
 rcases bft (decide ((w_14.length : Int) = (1 : Int))) with hg_36 | hg_36
 replace hV := hV.1 (od hg_36)
 iterate 5 refine R hS ?_
 refine WL.nil ?_
 replace hS := hS.f2
 exact Wt fun a ha => ⟨(!minus_15), hV, hS, ha.os⟩
 replace hV := hV.2 (ov hg_36)
 iterate 5 refine R hS ?_
 refine WL.nil ?_
 replace hS := hS.f2
 exact Wt fun a ha => ⟨false, hV, hS, ha.os⟩
theorem S_rsingle {w0 : World} {H : View} {L : Seg} {w : World} {b_2 : Nat} {s_4 : Str} {xat_5 : Int} {deep_7 : Int} {e_9 : Int} {bad_11 : Int} {heavy_13 : Bool} {Q : RV → Int → Int → Int → Prop} (hr_6 : I64 xat_5) (hr_8 : I64 deep_7) (hr_10 : I64 e_9) (hr_12 : I64 bad_11) (hS : St w0 H ([(b_2, oc #[sv s_4, i6 xat_5, i6 deep_7, i6 e_9, i6 bad_11, .bool heavy_13] 67)] ++ L) w) (hV : V_rsingle s_4 xat_5 deep_7 e_9 bad_11 heavy_13 Q) :
 Calls Tryz.prog 72 #[(pq b_2)] w fun e w' => ∃ (r1 : RV) (r2 : Int) (r3 : Int) (r4 : Int) (u1 : Value) (w1 : Value) (H' : View), Q r1 r2 r3 r4 ∧ e = .returned (.agg #[i6 r1.k, i6 r1.i, sv r1.t, u1, w1]) ∧ View.le H H' ∧ I64 r1.k ∧ I64 r1.i ∧ IsSl H' cR u1 r1.ks ∧ IsSl H' cR w1 r1.vs ∧ I64 r2 ∧ I64 r3 ∧ I64 r4 ∧ St w0 H' ([(b_2, oc #[sv s_4, i6 r2, i6 deep_7, i6 r3, i6 r4, .bool heavy_13] 67)] ++ L) w' := by
 unfold V_rsingle at hV
 refine enter func72 rfl ntmps72 rfl (lk_args_cons (d := 0) (v := (pq b_2)) rfl (lk_args_nil _)) (WC.sr (WL.alloc (arr := #[i6 0, i6 0, sv ([] : Str), ns, ns]) rfl zeroValue32 rfl hS ?_))
 clear hS
 intro b_14 w hS
 refine WL.nx (WC.sr ?_)
 iterate 3 refine R hS ?_
 replace hS := hS.f2
 iterate 2 refine R hS ?_
 refine WL.nx (WC.seq (WC.sr ?_))
 iterate 5 refine R hS ?_
 obtain ⟨hl_18, hV⟩ := hV
 iterate 2 refine R hS ?_
 refine WL.nx (Sb [(0, (pq b_2)), (2, (pq b_14)), (3, i6 xat_5), (21, .bool (decide (xat_5 = (s_4.length : Int))))] ?_)
 refine Cd ?_ ?_
 intro hc_183
 replace hV := hV.1 (od hc_183)
 refine WC.sr ?_
 iterate 2 refine R hS ?_
 refine Rc (enters0 (vs := [(pq b_2), i6 (1 : Int), i6 xat_5]) call28 ⟨rfl, rfl, rfl, trivial⟩) (S_rfail hr_6 hr_8 hr_10 hr_12 (show I64 (1 : Int) by unfold I64; omega) hr_6 hS hV) ?_
 clear hV hS
 rintro _ w ⟨r_20, r_22, hV, rfl, hr_21, hr_23, hS⟩
 refine ⟨_, rfl, ?_⟩
 refine WL.nx (WC.sr (Rn hS (ex_build (vs := []) (zc := #[i6 0, i6 0, sv ([] : Str), ns, ns]) (cs := #[i6 0, i6 0, sv ([] : Str), ns, ns]) (places := #[(0, 1), (1, 1), (2, 1), (3, 1), (4, 1)]) underlying32 zeroValue32 (fun w => by simp [sizeOf2, sizeOf3, sizeOf30, sizeOf9]) rfl trivial rfl (by simp [Instr.fill, cells_int, cells_bool, cells_iface, cells_niliface, cells_slice, str_cells])) ?_))
 replace hS := hS.f2
 refine St1 #[i6 0, i6 0, sv ([] : Str), ns, ns] sizeOf32 hS ?_
 clear hS
 intro w hS
 refine WL.nx (WC.ret (Wp ?_))
 have hl_27 := load_own_agg (P := Tryz.prog) (cs := [i6 0, i6 0, sv ([] : Str), ns, ns]) isAgg32 sizeOf32 hS rfl
 replace hS := hS.drop
 exact leavec1 (il) rfl rfl hl_27 (⟨(RV.mk 0 0 ([] : Str) ([] : List RV) ([] : List RV)), xat_5, r_20, r_22, ns, ns, H, hV, rfl, (View.le.refl _), i0, i0, IsSl.nil, IsSl.nil, hr_6, hr_21, hr_23, hS⟩)
 intro hc_183
 replace hV := hV.2 (ov hc_183)
 refine WC.skip (WQ.next (WC.seq (WC.sr ?_)))
 iterate 5 refine R hS ?_
 obtain ⟨hin_28, hV⟩ := hV
 iterate 2 refine R hS ?_
 refine WL.nx ?_
 refine Cd ?_ ?_
 intro hc_182
 replace hV := hV.1 (od hc_182)
 refine WC.sr ?_
 iterate 5 refine R hS ?_
 refine Rc (enters0 (vs := [sv s_4, i6 xat_5]) call111 ⟨rfl, rfl, trivial⟩) (S_rQuoted hr_6 hS hV) ?_
 clear hV hS
 rintro _ w ⟨r_29, hV, rfl, hr_30, hS⟩
 refine ⟨_, rfl, ?_⟩
 refine R hS ?_
 refine WL.nx (Sb [(0, (pq b_2)), (2, (pq b_14)), (3, i6 xat_5), (4, i6 r_29)] ?_)
 refine WC.seq (WC.sr ?_)
 iterate 2 refine R hS ?_
 refine WL.nx ?_
 refine Cd ?_ ?_
 intro hc_49
 replace hV := hV.1 (od hc_49)
 refine WC.sr ?_
 iterate 2 refine R hS ?_
 refine Rc (enters0 (vs := [(pq b_2), i6 (1 : Int), i6 xat_5]) call28 ⟨rfl, rfl, rfl, trivial⟩) (S_rfail hr_6 hr_8 hr_10 hr_12 (show I64 (1 : Int) by unfold I64; omega) hr_6 hS hV) ?_
 clear hV hS
 rintro _ w ⟨r_33, r_35, hV, rfl, hr_34, hr_36, hS⟩
 refine ⟨_, rfl, ?_⟩
 refine WL.nx (WC.sr (Rn hS (ex_build (vs := []) (zc := #[i6 0, i6 0, sv ([] : Str), ns, ns]) (cs := #[i6 0, i6 0, sv ([] : Str), ns, ns]) (places := #[(0, 1), (1, 1), (2, 1), (3, 1), (4, 1)]) underlying32 zeroValue32 (fun w => by simp [sizeOf2, sizeOf3, sizeOf30, sizeOf9]) rfl trivial rfl (by simp [Instr.fill, cells_int, cells_bool, cells_iface, cells_niliface, cells_slice, str_cells])) ?_))
 replace hS := hS.f2
 refine St1 #[i6 0, i6 0, sv ([] : Str), ns, ns] sizeOf32 hS ?_
 clear hS
 intro w hS
 refine WL.nx (WC.ret (Wp ?_))
 refine Wp ?_
 have hl_40 := load_own_agg (P := Tryz.prog) (cs := [i6 0, i6 0, sv ([] : Str), ns, ns]) isAgg32 sizeOf32 hS rfl
 replace hS := hS.drop
 exact leavec1 (il) rfl rfl hl_40 (⟨(RV.mk 0 0 ([] : Str) ([] : List RV) ([] : List RV)), xat_5, r_33, r_35, ns, ns, H, hV, rfl, (View.le.refl _), i0, i0, IsSl.nil, IsSl.nil, hr_6, hr_34, hr_36, hS⟩)
 intro hc_49
 replace hV := hV.2 (ov hc_49)
 refine WC.skip (WQ.next (WC.sr ?_))
 iterate 4 refine R hS ?_
 refine St1 #[sv s_4, i6 r_29, i6 deep_7, i6 e_9, i6 bad_11, .bool heavy_13] sizeOf3 hS ?_
 clear hS
 intro w hS
 refine WL.nx (WC.sr ?_)
 iterate 5 refine R hS ?_
 obtain ⟨hi_42, hV⟩ := hV
 iterate 2 refine R hS ?_
 obtain ⟨hi_44, hV⟩ := hV
 refine R hS ?_
 obtain ⟨hb_45, hV⟩ := hV
 refine Rn hS (ex_s_lohi underlying9 rfl rfl rfl hb_45) ?_
 refine Rn hS (ex_build (vs := [i6 (3 : Int), sv ((s_4.take (r_29 - (1 : Int)).toNat).drop (xat_5 + (1 : Int)).toNat)]) (zc := #[i6 0, i6 0, sv ([] : Str), ns, ns]) (cs := #[i6 (3 : Int), i6 0, sv ((s_4.take (r_29 - (1 : Int)).toNat).drop (xat_5 + (1 : Int)).toNat), ns, ns]) (places := #[(0, 1), (1, 1), (2, 1), (3, 1), (4, 1)]) underlying32 zeroValue32 (fun w => by simp [sizeOf2, sizeOf3, sizeOf30, sizeOf9]) rfl ⟨rfl, rfl, trivial⟩ rfl (by simp [Instr.fill, cells_int, cells_bool, cells_iface, cells_niliface, cells_slice, str_cells])) ?_
 replace hS := hS.f2
 refine St1 #[i6 (3 : Int), i6 0, sv ((s_4.take (r_29 - (1 : Int)).toNat).drop (xat_5 + (1 : Int)).toNat), ns, ns] sizeOf32 hS ?_
 clear hS
 intro w hS
 refine WL.nx (Sb [(2, (pq b_14))] ?_)
 refine WC.ret (Wp ?_)
 have hl_48 := load_own_agg (P := Tryz.prog) (cs := [i6 (3 : Int), i6 0, sv ((s_4.take (r_29 - (1 : Int)).toNat).drop (xat_5 + (1 : Int)).toNat), ns, ns]) isAgg32 sizeOf32 hS rfl
 replace hS := hS.drop
 exact leavec1 (il) rfl rfl hl_48 (⟨(RV.mk (3 : Int) 0 ((s_4.take (r_29 - (1 : Int)).toNat).drop (xat_5 + (1 : Int)).toNat) ([] : List RV) ([] : List RV)), r_29, e_9, bad_11, ns, ns, H, hV, rfl, (View.le.refl _), (show I64 (3 : Int) by unfold I64; omega), i0, IsSl.nil, IsSl.nil, hr_30, hr_10, hr_12, hS⟩)
 intro hc_182
 replace hV := hV.2 (ov hc_182)
 refine WC.skip (WQ.next (WC.sr ?_))
 iterate 2 refine R hS ?_
 refine WL.nx ?_
 obtain ⟨J_56, hJ_57, hV⟩ := hV
 refine WC.meet (fun a w => ∃ (xfrom_54 : Int), J_56 xfrom_54 ∧ I64 xfrom_54 ∧ St w0 H ([(b_2, oc #[sv s_4, i6 xat_5, i6 deep_7, i6 e_9, i6 bad_11, .bool heavy_13] 67)] ++ ([(b_14, Obj.cells #[i6 0, i6 0, sv ([] : Str), ns, ns] 32 (0, 0))] ++ L)) w ∧ Fr 142 [(0, (pq b_2)), (2, (pq b_14)), (3, i6 xat_5), (5, i6 xfrom_54)] a) ?_ ?_
 rintro a w ⟨xfrom_54, hI, hr_55, hS, ha⟩
 refine in_frame ha ?_
 clear ha hV
 have hV := hJ_57 _ hI
 clear hI hJ_57
 refine WC.sr ?_
 iterate 5 refine R hS ?_
 refine Rc (enters0 (vs := [sv s_4, i6 xfrom_54]) call112 ⟨rfl, rfl, trivial⟩) (S_rRun hr_55 hS hV) ?_
 clear hV hS
 rintro _ w ⟨r_62, hV, rfl, hr_63, hS⟩
 refine ⟨_, rfl, ?_⟩
 refine R hS ?_
 refine WL.nx (WC.sr ?_)
 iterate 6 refine R hS ?_
 obtain ⟨hb_65, hV⟩ := hV
 refine Rn hS (ex_s_lohi underlying9 rfl rfl rfl hb_65) ?_
 refine R hS ?_
 refine WL.nx (Sb [(0, (pq b_2)), (2, (pq b_14)), (3, i6 xat_5), (5, i6 xfrom_54), (6, i6 r_62), (7, sv ((s_4.take r_62.toNat).drop xfrom_54.toNat))] ?_)
 refine WC.seq (WC.sr ?_)
 iterate 2 refine R hS ?_
 refine WL.nx ?_
 refine Cd ?_ ?_
 intro hc_181
 replace hV := hV.1 (od hc_181)
 refine WC.sr ?_
 iterate 2 refine R hS ?_
 refine Rc (enters0 (vs := [(pq b_2), i6 (1 : Int), i6 xat_5]) call28 ⟨rfl, rfl, rfl, trivial⟩) (S_rfail hr_6 hr_8 hr_10 hr_12 (show I64 (1 : Int) by unfold I64; omega) hr_6 hS hV) ?_
 clear hV hS
 rintro _ w ⟨r_66, r_68, hV, rfl, hr_67, hr_69, hS⟩
 refine ⟨_, rfl, ?_⟩
 refine WL.nx (Sb [(2, (pq b_14))] ?_)
 refine WC.sr (Rn hS (ex_build (vs := []) (zc := #[i6 0, i6 0, sv ([] : Str), ns, ns]) (cs := #[i6 0, i6 0, sv ([] : Str), ns, ns]) (places := #[(0, 1), (1, 1), (2, 1), (3, 1), (4, 1)]) underlying32 zeroValue32 (fun w => by simp [sizeOf2, sizeOf3, sizeOf30, sizeOf9]) rfl trivial rfl (by simp [Instr.fill, cells_int, cells_bool, cells_iface, cells_niliface, cells_slice, str_cells])) ?_)
 replace hS := hS.f2
 refine St1 #[i6 0, i6 0, sv ([] : Str), ns, ns] sizeOf32 hS ?_
 clear hS
 intro w hS
 refine WL.nx (WC.ret (Wp ?_))
 have hl_73 := load_own_agg (P := Tryz.prog) (cs := [i6 0, i6 0, sv ([] : Str), ns, ns]) isAgg32 sizeOf32 hS rfl
 replace hS := hS.drop
 exact leavec1 (il) rfl rfl hl_73 (⟨(RV.mk 0 0 ([] : Str) ([] : List RV) ([] : List RV)), xat_5, r_66, r_68, ns, ns, H, hV, rfl, (View.le.refl _), i0, i0, IsSl.nil, IsSl.nil, hr_6, hr_67, hr_69, hS⟩)
 intro hc_181
 replace hV := hV.2 (ov hc_181)
 refine WC.skip (WQ.next (WC.sr (R hS ?_)))
 obtain ⟨hin_74, hV⟩ := hV
 refine R hS ?_
 refine Rc (enters0 (vs := [.int .u8 (byte ((s_4.take r_62.toNat).drop xfrom_54.toNat) (0 : Int))]) call113 ⟨rfl, trivial⟩) (S_rDigit (byte_has (x := ((s_4.take r_62.toNat).drop xfrom_54.toNat)) (i := (0 : Int))) hS hV) ?_
 clear hV hS
 rintro _ w ⟨r_75, hV, rfl, hS⟩
 refine ⟨_, rfl, ?_⟩
 refine R hS ?_
 refine WL.nx (WC.seq (WC.sr (R hS ?_)))
 refine WL.nx ?_
 refine Cd ?_ ?_
 intro hc_180
 replace hV := hV.1 hc_180
 refine WC.sr ?_
 iterate 7 refine R hS ?_
 refine Rc (enters0 (vs := [(pq b_2), sv ((s_4.take r_62.toNat).drop xfrom_54.toNat), .bool (decide (xat_5 < xfrom_54)), i6 xat_5, i6 r_62]) call114 ⟨rfl, rfl, rfl, rfl, rfl, trivial⟩) (S_rnumber hr_6 hr_8 hr_10 hr_12 hr_6 hr_63 hS hV) ?_
 clear hV hS
 rintro _ w ⟨r_78, r_85, r_87, r_89, v_79, v_80, H_91, hV, rfl, le_92, hr_81, hr_82, h_83, h_84, hr_86, hr_88, hr_90, hS⟩
 refine ⟨_, rfl, ?_⟩
 replace hS := hS.f2
 refine St1 #[i6 r_78.k, i6 r_78.i, sv r_78.t, v_79, v_80] sizeOf32 hS ?_ (cs := [i6 r_78.k, i6 r_78.i, sv r_78.t, v_79, v_80]) (hone := ⟨rfl, rfl, rfl, (IsSl.one h_83), (IsSl.one h_84), trivial⟩)
 clear hS
 intro w hS
 refine WL.nx (Sb [(2, (pq b_14))] ?_)
 refine WC.ret (Wp ?_)
 have hl_93 := load_own_agg (P := Tryz.prog) (cs := [i6 r_78.k, i6 r_78.i, sv r_78.t, v_79, v_80]) isAgg32 sizeOf32 hS rfl
 replace hS := hS.drop
 exact leavec1 (il) rfl rfl hl_93 (⟨r_78, r_85, r_87, r_89, v_79, v_80, H_91, hV, rfl, ((View.le.refl _).trans le_92), hr_81, hr_82, h_83, h_84, hr_86, hr_88, hr_90, hS⟩)
 intro hc_180
 replace hV := hV.2 hc_180
 refine WC.skip (WQ.next (WC.sr (R hS ?_)))
 obtain ⟨hin_94, hV⟩ := hV
 refine R hS ?_
 refine Rc (enters0 (vs := [.int .u8 (byte ((s_4.take r_62.toNat).drop xfrom_54.toNat) (0 : Int))]) call115 ⟨rfl, trivial⟩) (S_rLetter (byte_has (x := ((s_4.take r_62.toNat).drop xfrom_54.toNat)) (i := (0 : Int))) hS hV) ?_
 clear hV hS
 rintro _ w ⟨r_95, hV, rfl, hS⟩
 refine ⟨_, rfl, ?_⟩
 refine R hS ?_
 refine WL.nx (Sb [(0, (pq b_2)), (2, (pq b_14)), (3, i6 xat_5), (5, i6 xfrom_54), (6, i6 r_62), (7, sv ((s_4.take r_62.toNat).drop xfrom_54.toNat)), (9, .bool r_95)] ?_)
 refine WC.seq (WC.seq ?_)
 refine WC.via (m := [(0, (pq b_2)), (2, (pq b_14)), (3, i6 xat_5), (6, i6 r_62), (7, sv ((s_4.take r_62.toNat).drop xfrom_54.toNat)), (109, .bool (decide ((xat_5 < xfrom_54) ∨ ((!r_95) = true))))]) ?_ ?_
 refine WC.region ?_
 iterate 4 refine R hS ?_
 rcases bft (decide (xat_5 < xfrom_54)) with hg_99 | hg_99
 iterate 3 refine R hS ?_
 refine WL.up (s := 109) rfl (or_t hg_99 : true = decide ((xat_5 < xfrom_54) ∨ ((!r_95) = true))) ?_
 exact WL.nil At.os
 iterate 3 refine R hS ?_
 refine WL.up (s := 109) rfl ((dec_true _).trans (or_f hg_99 : decide ((!r_95) = true) = decide ((xat_5 < xfrom_54) ∨ ((!r_95) = true)))) ?_
 exact WL.nil At.os
 refine WQ.next ?_
 refine Cd ?_ ?_
 intro hc_179
 replace hV := hV.1 (od hc_179)
 refine WC.sr ?_
 iterate 2 refine R hS ?_
 refine Rc (enters0 (vs := [(pq b_2), i6 (1 : Int), i6 xat_5]) call28 ⟨rfl, rfl, rfl, trivial⟩) (S_rfail hr_6 hr_8 hr_10 hr_12 (show I64 (1 : Int) by unfold I64; omega) hr_6 hS hV) ?_
 clear hV hS
 rintro _ w ⟨r_100, r_102, hV, rfl, hr_101, hr_103, hS⟩
 refine ⟨_, rfl, ?_⟩
 refine WL.nx (WC.sr (Rn hS (ex_build (vs := []) (zc := #[i6 0, i6 0, sv ([] : Str), ns, ns]) (cs := #[i6 0, i6 0, sv ([] : Str), ns, ns]) (places := #[(0, 1), (1, 1), (2, 1), (3, 1), (4, 1)]) underlying32 zeroValue32 (fun w => by simp [sizeOf2, sizeOf3, sizeOf30, sizeOf9]) rfl trivial rfl (by simp [Instr.fill, cells_int, cells_bool, cells_iface, cells_niliface, cells_slice, str_cells])) ?_))
 replace hS := hS.f2
 refine St1 #[i6 0, i6 0, sv ([] : Str), ns, ns] sizeOf32 hS ?_
 clear hS
 intro w hS
 refine WL.nx (WC.ret (Wp ?_))
 have hl_107 := load_own_agg (P := Tryz.prog) (cs := [i6 0, i6 0, sv ([] : Str), ns, ns]) isAgg32 sizeOf32 hS rfl
 replace hS := hS.drop
 exact leavec1 (il) rfl rfl hl_107 (⟨(RV.mk 0 0 ([] : Str) ([] : List RV) ([] : List RV)), xat_5, r_100, r_102, ns, ns, H, hV, rfl, (View.le.refl _), i0, i0, IsSl.nil, IsSl.nil, hr_6, hr_101, hr_103, hS⟩)
 intro hc_179
 replace hV := hV.2 (ov hc_179)
 refine WC.skip (WQ.next (WC.sr ?_))
 iterate 4 refine R hS ?_
 refine St1 #[sv s_4, i6 r_62, i6 deep_7, i6 e_9, i6 bad_11, .bool heavy_13] sizeOf3 hS ?_
 clear hS
 intro w hS
 refine WL.nx (WC.seq (WC.sr (R hS ?_)))
 refine WL.nx (WC.block (WC.sr ?_))
 iterate 2 refine R hS ?_
 refine WL.nx ?_
 refine Cd ?_ ?_
 intro hc_178
 replace hV := hV.1 (od hc_178)
 refine WC.sr (Rn hS (ex_build (vs := []) (zc := #[i6 0, i6 0, sv ([] : Str), ns, ns]) (cs := #[i6 0, i6 0, sv ([] : Str), ns, ns]) (places := #[(0, 1), (1, 1), (2, 1), (3, 1), (4, 1)]) underlying32 zeroValue32 (fun w => by simp [sizeOf2, sizeOf3, sizeOf30, sizeOf9]) rfl trivial rfl (by simp [Instr.fill, cells_int, cells_bool, cells_iface, cells_niliface, cells_slice, str_cells])) ?_)
 replace hS := hS.f2
 refine St1 #[i6 0, i6 0, sv ([] : Str), ns, ns] sizeOf32 hS ?_
 clear hS
 intro w hS
 refine WL.nx (Sb [(2, (pq b_14))] ?_)
 refine WC.ret (WQ.out nofun (Wp ?_))
 have hl_110 := load_own_agg (P := Tryz.prog) (cs := [i6 0, i6 0, sv ([] : Str), ns, ns]) isAgg32 sizeOf32 hS rfl
 replace hS := hS.drop
 exact leavec1 (il) rfl rfl hl_110 (⟨(RV.mk 0 0 ([] : Str) ([] : List RV) ([] : List RV)), r_62, e_9, bad_11, ns, ns, H, hV, rfl, (View.le.refl _), i0, i0, IsSl.nil, IsSl.nil, hr_63, hr_10, hr_12, hS⟩)
 intro hc_178
 replace hV := hV.2 (ov hc_178)
 refine WC.sr ?_
 iterate 2 refine R hS ?_
 refine WL.nx ?_
 refine Cd ?_ ?_
 intro hc_177
 replace hV := hV.1 (od hc_177)
 refine WC.sr (Rc (enters0 (vs := [.bool true]) call83 ⟨rfl, trivial⟩) (S_rTruth  hS hV) ?_)
 clear hV hS
 rintro _ w ⟨r_111, v_112, v_113, H_118, hV, rfl, le_119, hr_114, hr_115, h_116, h_117, hS⟩
 refine ⟨_, rfl, ?_⟩
 replace hS := hS.f2
 refine St1 #[i6 r_111.k, i6 r_111.i, sv r_111.t, v_112, v_113] sizeOf32 hS ?_ (cs := [i6 r_111.k, i6 r_111.i, sv r_111.t, v_112, v_113]) (hone := ⟨rfl, rfl, rfl, (IsSl.one h_116), (IsSl.one h_117), trivial⟩)
 clear hS
 intro w hS
 refine WL.nx (Sb [(2, (pq b_14))] ?_)
 refine WC.ret (WQ.out nofun (Wp ?_))
 have hl_120 := load_own_agg (P := Tryz.prog) (cs := [i6 r_111.k, i6 r_111.i, sv r_111.t, v_112, v_113]) isAgg32 sizeOf32 hS rfl
 replace hS := hS.drop
 exact leavec1 (il) rfl rfl hl_120 (⟨r_111, r_62, e_9, bad_11, v_112, v_113, H_118, hV, rfl, ((View.le.refl _).trans le_119), hr_114, hr_115, h_116, h_117, hr_63, hr_10, hr_12, hS⟩)
 intro hc_177
 replace hV := hV.2 (ov hc_177)
 refine WC.sr ?_
 iterate 2 refine R hS ?_
 refine WL.nx (Sb [(0, (pq b_2)), (2, (pq b_14)), (3, i6 xat_5), (7, sv ((s_4.take r_62.toNat).drop xfrom_54.toNat)), (125, .bool (decide (((s_4.take r_62.toNat).drop xfrom_54.toNat) = ([102, 97, 108, 115, 101] : Str))))] ?_)
 refine Cd ?_ ?_
 intro hc_176
 replace hV := hV.1 (od hc_176)
 refine WC.sr (Rc (enters0 (vs := [.bool false]) call83 ⟨rfl, trivial⟩) (S_rTruth  hS hV) ?_)
 clear hV hS
 rintro _ w ⟨r_121, v_122, v_123, H_128, hV, rfl, le_129, hr_124, hr_125, h_126, h_127, hS⟩
 refine ⟨_, rfl, ?_⟩
 replace hS := hS.f2
 refine St1 #[i6 r_121.k, i6 r_121.i, sv r_121.t, v_122, v_123] sizeOf32 hS ?_ (cs := [i6 r_121.k, i6 r_121.i, sv r_121.t, v_122, v_123]) (hone := ⟨rfl, rfl, rfl, (IsSl.one h_126), (IsSl.one h_127), trivial⟩)
 clear hS
 intro w hS
 refine WL.nx (WC.ret (WQ.out nofun (Wp ?_)))
 have hl_130 := load_own_agg (P := Tryz.prog) (cs := [i6 r_121.k, i6 r_121.i, sv r_121.t, v_122, v_123]) isAgg32 sizeOf32 hS rfl
 replace hS := hS.drop
 exact leavec1 (il) rfl rfl hl_130 (⟨r_121, r_62, e_9, bad_11, v_122, v_123, H_128, hV, rfl, ((View.le.refl _).trans le_129), hr_124, hr_125, h_126, h_127, hr_63, hr_10, hr_12, hS⟩)
 intro hc_176
 replace hV := hV.2 (ov hc_176)
 refine WC.skip (WQ.out nofun (WQ.next (WC.sr (R hS ?_))))
 refine Rc (enters0 (vs := [sv ((s_4.take r_62.toNat).drop xfrom_54.toNat)]) call116 ⟨rfl, trivial⟩) (S_rReserved  hS hV) ?_
 clear hV hS
 rintro _ w ⟨r_131, hV, rfl, hS⟩
 refine ⟨_, rfl, ?_⟩
 refine R hS ?_
 refine WL.nx ?_
 obtain ⟨J_143, hJ_144, hV⟩ := hV
 refine WC.meet (fun a w => ∃ (c_139 : Int) (c_141 : Int), J_143 (c_139, c_141) ∧ I64 c_139 ∧ I64 c_141 ∧ St w0 H ([(b_2, oc #[sv s_4, i6 r_62, i6 deep_7, i6 c_139, i6 c_141, .bool heavy_13] 67)] ++ ([(b_14, Obj.cells #[i6 0, i6 0, sv ([] : Str), ns, ns] 32 (0, 0))] ++ L)) w ∧ Fr 142 [(0, (pq b_2)), (2, (pq b_14)), (3, i6 xat_5), (7, sv ((s_4.take r_62.toNat).drop xfrom_54.toNat))] a) ?_ ?_
 rintro a w ⟨c_139, c_141, hI, hr_140, hr_142, hS, ha⟩
 refine in_frame ha ?_
 clear ha hV
 have hV := hJ_144 _ hI
 clear hI hJ_144
 obtain ⟨J_163, hJ_164, hV⟩ := hV
 refine WC.meet (fun a w => ∃ (c_159 : Int) (c_161 : Int), J_163 (c_159, c_161) ∧ I64 c_159 ∧ I64 c_161 ∧ St w0 H ([(b_14, Obj.cells #[i6 0, i6 0, sv ([] : Str), ns, ns] 32 (0, 0))] ++ ([(b_2, oc #[sv s_4, i6 r_62, i6 deep_7, i6 c_159, i6 c_161, .bool heavy_13] 67)] ++ L)) w ∧ Fr 142 [(2, (pq b_14)), (7, sv ((s_4.take r_62.toNat).drop xfrom_54.toNat))] a) ?_ ?_
 rintro a w ⟨c_159, c_161, hI, hr_160, hr_162, hS, ha⟩
 refine in_frame ha ?_
 clear ha hV
 have hV := hJ_164 _ hI
 clear hI hJ_164
 refine WC.sr (R hS ?_)
 refine Rn hS (ex_build (vs := [i6 (4 : Int), sv ((s_4.take r_62.toNat).drop xfrom_54.toNat)]) (zc := #[i6 0, i6 0, sv ([] : Str), ns, ns]) (cs := #[i6 (4 : Int), i6 0, sv ((s_4.take r_62.toNat).drop xfrom_54.toNat), ns, ns]) (places := #[(0, 1), (1, 1), (2, 1), (3, 1), (4, 1)]) underlying32 zeroValue32 (fun w => by simp [sizeOf2, sizeOf3, sizeOf30, sizeOf9]) rfl ⟨rfl, rfl, trivial⟩ rfl (by simp [Instr.fill, cells_int, cells_bool, cells_iface, cells_niliface, cells_slice, str_cells])) ?_
 refine St1 #[i6 (4 : Int), i6 0, sv ((s_4.take r_62.toNat).drop xfrom_54.toNat), ns, ns] sizeOf32 hS ?_
 clear hS
 intro w hS
 refine WL.nx (WC.ret ?_)
 have hl_175 := load_own_agg (P := Tryz.prog) (cs := [i6 (4 : Int), i6 0, sv ((s_4.take r_62.toNat).drop xfrom_54.toNat), ns, ns]) isAgg32 sizeOf32 hS rfl
 replace hS := hS.drop
 exact leavec1 (il) rfl rfl hl_175 (⟨(RV.mk (4 : Int) 0 ((s_4.take r_62.toNat).drop xfrom_54.toNat) ([] : List RV) ([] : List RV)), r_62, c_159, c_161, ns, ns, H, hV, rfl, (View.le.refl _), (show I64 (4 : Int) by unfold I64; omega), i0, IsSl.nil, IsSl.nil, hr_63, hr_160, hr_162, hS⟩)
 clear hJ_164
 refine WC.sr (R hS ?_)
 obtain ⟨hl_165, hV⟩ := hV
 iterate 2 refine R hS ?_
 refine WL.nx ?_
 refine Cd ?_ ?_
 intro hc_172
 replace hV := hV.1 (od hc_172)
 refine WC.region ?_
 iterate 2 refine R hS ?_
 refine Rc (enters0 (vs := [(pq b_2), i6 (5 : Int), i6 xat_5]) call28 ⟨rfl, rfl, rfl, trivial⟩) (S_rfail hr_63 hr_8 hr_140 hr_142 (show I64 (5 : Int) by unfold I64; omega) hr_6 hS hV) ?_
 clear hV hS
 rintro _ w ⟨r_167, r_169, hV, rfl, hr_168, hr_170, hS⟩
 refine ⟨_, rfl, ?_⟩
 refine WL.nil ?_
 replace hS := hS.f2
 exact Wt fun a ha => ⟨r_167, r_169, hV, hr_168, hr_170, hS, ha.os⟩
 intro hc_172
 replace hV := hV.2 (ov hc_172)
 refine WC.skip ?_
 replace hS := hS.f2
 exact Wt fun a ha => ⟨c_139, c_141, hV, hr_140, hr_142, hS, ha.os⟩
 clear hJ_144
 refine WC.sr (R hS ?_)
 refine WL.nx ?_
 refine Cd ?_ ?_
 intro hc_150
 replace hV := hV.1 hc_150
 refine WC.region ?_
 iterate 2 refine R hS ?_
 refine Rc (enters0 (vs := [(pq b_2), i6 (1 : Int), i6 xat_5]) call28 ⟨rfl, rfl, rfl, trivial⟩) (S_rfail hr_63 hr_8 hr_10 hr_12 (show I64 (1 : Int) by unfold I64; omega) hr_6 hS hV) ?_
 clear hV hS
 rintro _ w ⟨r_145, r_147, hV, rfl, hr_146, hr_148, hS⟩
 refine ⟨_, rfl, ?_⟩
 refine WL.nil ?_
 replace hS := hS.f2.f2
 exact Wt fun a ha => ⟨r_145, r_147, hV, hr_146, hr_148, hS, ha.os⟩
 intro hc_150
 replace hV := hV.2 hc_150
 refine WC.skip ?_
 replace hS := hS.f2.f2
 exact Wt fun a ha => ⟨e_9, bad_11, hV, hr_10, hr_12, hS, ha.os⟩
 clear hJ_57
 refine WC.sr ?_
 iterate 5 refine R hS ?_
 obtain ⟨hin_58, hV⟩ := hV
 iterate 2 refine R hS ?_
 refine WL.nx (Sb [(0, (pq b_2)), (2, (pq b_14)), (3, i6 xat_5), (5, i6 xat_5), (66, .bool (decide ((byte s_4 xat_5) = (45 : Int))))] ?_)
 refine Cd ?_ ?_
 intro hc_61
 replace hV := hV.1 (od hc_61)
 refine WC.region (R hS ?_)
 obtain ⟨hi_60, hV⟩ := hV
 iterate 2 refine R hS ?_
 refine WL.nil ?_
 replace hS := hS.f2.f2
 exact Wt fun a ha => ⟨(xat_5 + (1 : Int)), hV, hi_60, hS, ha.os⟩
 intro hc_61
 replace hV := hV.2 (ov hc_61)
 refine WC.skip ?_
 replace hS := hS.f2.f2
 exact Wt fun a ha => ⟨xat_5, hV, hr_6, hS, ha.os⟩
def H_rvalue (G : Str → Int → Int → Int → Int → Bool → (RV → Int → Int → Int → Int → Bool → Prop) → Prop) : Prop := ∀ {w0 : World} {H : View} {L : Seg} {w : World} {b_2 : Nat} {s_4 : Str} {xat_5 : Int} {deep_7 : Int} {e_9 : Int} {bad_11 : Int} {heavy_13 : Bool} {Q : RV → Int → Int → Int → Int → Bool → Prop} (hr_6 : I64 xat_5) (hr_8 : I64 deep_7) (hr_10 : I64 e_9) (hr_12 : I64 bad_11) (hS : St w0 H ([(b_2, oc #[sv s_4, i6 xat_5, i6 deep_7, i6 e_9, i6 bad_11, .bool heavy_13] 67)] ++ L) w) (hV : G s_4 xat_5 deep_7 e_9 bad_11 heavy_13 Q), Calls Tryz.prog 26 #[(pq b_2)] w fun e w' => ∃ (r1 : RV) (r2 : Int) (r3 : Int) (r4 : Int) (r5 : Int) (r6 : Bool) (u1 : Value) (w1 : Value) (H' : View), Q r1 r2 r3 r4 r5 r6 ∧ e = .returned (.agg #[i6 r1.k, i6 r1.i, sv r1.t, u1, w1]) ∧ View.le H H' ∧ I64 r1.k ∧ I64 r1.i ∧ IsSl H' cR u1 r1.ks ∧ IsSl H' cR w1 r1.vs ∧ I64 r2 ∧ I64 r3 ∧ I64 r4 ∧ I64 r5 ∧ St w0 H' ([(b_2, oc #[sv s_4, i6 r2, i6 r3, i6 r4, i6 r5, .bool r6] 67)] ++ L) w'
end Go.Proofs.YtlhkfkecoekoeaaGreatDoor
