/- For each function: called, it does its work where its condition is so. Printed by program. -/
import Derived.Test.YtceipmldngeagaaFacts
import Derived.Test.YtceipmldngeagaaConds
import Derived.Test.YtceipmldngeagaaManB
import Derived.Test.YtceipmldngeagaaWalks3
set_option linter.unusedVariables false
set_option linter.unusedSimpArgs false
set_option maxRecDepth 100000
namespace Go.Proofs.Ytceipmldngeagaa
open Go.Vc
theorem S_world {w0 : World} {H : View} {L : Seg} {w : World} {n_1 : Int} {Q : (Option (N3 × LI × M3 × LI × LI × M3 × Int × LI × B2 × LI × B2)) → Prop} (hr_2 : I64 n_1) (hS : St w0 H (L) w) (hV : V_world n_1 Q) :
 Calls Try.prog 8 #[i6 n_1] w fun e w' => ∃ (r1 : Option (N3 × LI × M3 × LI × LI × M3 × Int × LI × B2 × LI × B2)) (v1 : Value) (fp1 : Seg) (H' : View), Q r1 ∧ e = .returned (v1) ∧ View.le H H' ∧ ((r1 = none ∧ v1 = .pointer none ∧ fp1 = ([] : Seg)) ∨ (∃ (x1_b : Nat) (x1_0_b : Nat) (x1_0_0 : N3) (x1_0_1 : LI) (x1_0_2 : M3) (x1_0_3 : LI) (x1_0_4 : LI) (x1_0_5 : M3) (x1_1 : Int) (x1_2 : LI) (x1_3 : B2) (x1_4 : LI) (x1_5 : B2) (x1_0_0v : Value) (x1_0_0f : Seg) (x1_0_1v : Value) (x1_0_1f : Seg) (x1_0_2v : Value) (x1_0_2f : Seg) (x1_0_3v : Value) (x1_0_3f : Seg) (x1_0_4v : Value) (x1_0_4f : Seg) (x1_0_5v : Value) (x1_0_5f : Seg) (x1_2v : Value) (x1_2f : Seg) (x1_3v : Value) (x1_3f : Seg) (x1_4v : Value) (x1_4f : Seg) (x1_5v : Value) (x1_5f : Seg), r1 = some (x1_0_0, x1_0_1, x1_0_2, x1_0_3, x1_0_4, x1_0_5, x1_1, x1_2, x1_3, x1_4, x1_5) ∧ v1 = (pq x1_b) ∧ fp1 = ([(x1_b, oc #[(pq x1_0_b), i6 x1_1, x1_2v, x1_3v, x1_4v, x1_5v] 39)] ++ [(x1_0_b, oc #[x1_0_0v, x1_0_1v, x1_0_2v, x1_0_3v, x1_0_4v, x1_0_5v] 79)] ++ (x1_0_0f ++ (x1_0_1f ++ (x1_0_2f ++ (x1_0_3f ++ (x1_0_4f ++ (x1_0_5f ++ (x1_2f ++ (x1_3f ++ (x1_4f ++ x1_5f)))))))))) ∧ OwnSl H' (cPair (cInt .i64) (cPair (cInt .i64) (cInt .i64))) 81 x1_0_0v x1_0_0 x1_0_0f ∧ OwnSl H' (cInt .i64) 32 x1_0_1v x1_0_1 x1_0_1f ∧ OwnMp H' kTri (cInt .i64) x1_0_2v x1_0_2 x1_0_2f ∧ OwnSl H' (cInt .i64) 3 x1_0_3v x1_0_3 x1_0_3f ∧ OwnSl H' (cInt .i64) 3 x1_0_4v x1_0_4 x1_0_4f ∧ OwnMp H' kTri (cInt .i64) x1_0_5v x1_0_5 x1_0_5f ∧ I64 x1_1 ∧ OwnSl H' (cInt .i64) 32 x1_2v x1_2 x1_2f ∧ OwnSl H' (cSl cBool) 28 x1_3v x1_3 x1_3f ∧ OwnSl H' (cInt .i64) 3 x1_4v x1_4 x1_4f ∧ OwnSl H' (cSl cBool) 28 x1_5v x1_5 x1_5f)) ∧ St w0 H' (fp1 ++ L) w' := by
 unfold V_world at hV
 refine enter Try.func8 rfl Try.ntmps8 rfl (lk_args_cons (d := 0) (v := i6 n_1) rfl (lk_args_nil _)) ?_
 refine WC.sr ?_
 refine WL.ma rfl rfl ?_
 refine WL.nx ?_
 refine WC.sr ?_
 refine WL.mv rfl rfl ?_
 refine WL.call rfl rfl rfl (enters0 (vs := [i6 n_1]) Try.call13 ⟨rfl, trivial⟩) (S_New  hr_2 hS hV) ?_
 clear hV hS
 rintro _ w ⟨r_3, r_9, v_4, fp_5, hV, rfl, h_6, hS⟩
 refine ⟨_, rfl, ?_⟩
 rcases h_6 with ⟨rfl, rfl, rfl⟩ | ⟨y_8_b, y_8_0, y_8_1, y_8_2, y_8_3, y_8_4, y_8_5, y_8_0v, y_8_0f, y_8_1v, y_8_1f, y_8_2v, y_8_2f, y_8_3v, y_8_3f, y_8_4v, y_8_4f, y_8_5v, y_8_5f, rfl, rfl, rfl, h_16, h_18, h_20, h_22, h_24, h_26⟩
 replace hS : St w0 H (L) w := hS
 replace hV := hV.1 rfl
 refine WL.mv rfl rfl ?_
 refine WL.run hS rfl rfl rfl (ex_extract rfl rfl) ?_
 refine WL.run hS rfl rfl rfl (ex_extract rfl rfl) ?_
 refine WL.ma rfl rfl ?_
 refine WL.ma rfl rfl ?_
 refine WL.nx ?_
 refine WC.seq ?_
 obtain ⟨J_12, hJ_13, hV⟩ := hV
 refine WC.meet (fun a w => J_12 () ∧ St w0 H (L) w ∧ Fr 62 [(0, i6 n_1), (3, .pointer none), (21, .bool true)] a) ?_ ?_
 rintro a w ⟨hI, hS, ha⟩
 refine in_frame ha ?_
 clear ha hV
 have hV := hJ_13 _ hI
 clear hI hJ_13
 refine WC.cond_true rfl ?_
 refine WC.sr ?_
 refine WL.ma rfl rfl ?_
 refine WL.nx ?_
 refine WC.ret ?_
 refine WQ.pass nofun ?_
 exact leave1 rfl rfl ⟨none, (.pointer none), ([] : Seg), H, hV, rfl, (View.le.refl _), (.inl ⟨rfl, rfl, rfl⟩), hS⟩
 clear hJ_13
 refine WC.region ?_
 refine WL.mv rfl rfl ?_
 refine WL.run hS rfl rfl rfl (ex_err_neq (T := 74) (e := r_9) Try.iface43 rfl rfl) ?_
 refine WL.mv rfl rfl ?_
 rcases Bool.eq_false_or_eq_true (decide (r_9 ≠ none)) with hg_14 | hg_14
 replace hV := hV.1 (of_decide_eq_true hg_14)
 refine WL.skip_g rfl rfl rfl hg_14 rfl rfl ?_
 refine WL.skip_g rfl rfl rfl hg_14 rfl rfl ?_
 refine WL.run hS rfl rfl rfl (ex_pick_t rfl hg_14 rfl) ?_
 refine WL.nil ?_
 exact WQ.there fun a ha => ⟨hV, hS, ha.of_sub ⟨rfl, rfl, rfl, trivial⟩⟩
 replace hV := hV.2 (of_decide_eq_false hg_14)
 refine WL.unguard rfl rfl hg_14 ?_
 refine WL.mv rfl rfl ?_
 refine WL.unguard rfl rfl hg_14 ?_
 refine WL.run hS rfl rfl rfl (ex_ptr_eql Try.ptr36 rfl) ?_
 refine WL.run hS rfl rfl rfl (ex_pick_f rfl hg_14 rfl) ?_
 refine WL.nil ?_
 exact WQ.there fun a ha => ⟨hV, hS, ha.of_sub ⟨rfl, rfl, rfl, trivial⟩⟩
 simp only [List.append_assoc] at hS
 replace hS : St w0 H ([(y_8_b, oc #[y_8_0v, y_8_1v, y_8_2v, y_8_3v, y_8_4v, y_8_5v] 79)] ++ (y_8_0f ++ (y_8_1f ++ (y_8_2f ++ (y_8_3f ++ (y_8_4f ++ (y_8_5f ++ L))))))) w := hS
 replace hV := hV.2 _ _ _ _ _ _ rfl
 refine WL.mv rfl rfl ?_
 refine WL.run hS rfl rfl rfl (ex_extract rfl rfl) ?_
 refine WL.run hS rfl rfl rfl (ex_extract rfl rfl) ?_
 refine WL.ma rfl rfl ?_
 refine WL.ma rfl rfl ?_
 refine WL.nx ?_
 refine WC.seq ?_
 obtain ⟨J_30, hJ_31, hV⟩ := hV
 refine WC.meet (fun a w => ∃ (x_29 : Bool), J_30 x_29 ∧ St w0 H ([(y_8_b, oc #[y_8_0v, y_8_1v, y_8_2v, y_8_3v, y_8_4v, y_8_5v] 79)] ++ (y_8_0f ++ (y_8_1f ++ (y_8_2f ++ (y_8_3f ++ (y_8_4f ++ (y_8_5f ++ L))))))) w ∧ Fr 62 [(0, i6 n_1), (3, (pq y_8_b)), (21, .bool x_29)] a) ?_ ?_
 rintro a w ⟨x_29, hI, hS, ha⟩
 refine in_frame ha ?_
 clear ha hV
 have hV := hJ_31 _ hI
 clear hI hJ_31
 refine WC.cond rfl ?_ ?_
 intro hc_121
 replace hV := hV.1 hc_121
 refine WC.sr ?_
 refine WL.ma rfl rfl ?_
 refine WL.nx ?_
 replace hS := hS.drop
 replace hS := hS.drop
 replace hS := hS.drop
 replace hS := hS.drop
 replace hS := hS.drop
 replace hS := hS.drop
 replace hS := hS.drop
 refine WC.ret ?_
 refine WQ.pass nofun ?_
 exact leave1 rfl rfl ⟨none, (.pointer none), ([] : Seg), H, hV, rfl, (View.le.refl _), (.inl ⟨rfl, rfl, rfl⟩), hS⟩
 intro hc_121
 replace hV := hV.2 hc_121
 refine WC.skip ?_
 refine WQ.next ?_
 refine WC.sr ?_
 refine WL.mv rfl rfl ?_
 refine WL.mv rfl rfl ?_
 refine WL.run hS rfl rfl rfl (ex_build (vs := [(pq y_8_b), i6 n_1]) (zc := #[.pointer none, i6 0, (.slice none 0 0), (.slice none 0 0), (.slice none 0 0), (.slice none 0 0)]) (cs := #[(pq y_8_b), i6 n_1, (.slice none 0 0), (.slice none 0 0), (.slice none 0 0), (.slice none 0 0)]) (places := #[(0, 1), (1, 1), (2, 1), (3, 1), (4, 1), (5, 1)]) Try.underlying39 Try.zeroValue39 (fun w => by simp [Try.sizeOf27, Try.sizeOf3, Try.sizeOf35, Try.sizeOf36, Try.sizeOf37]) rfl ⟨rfl, rfl, trivial⟩ rfl (by simp [Instr.fill, cells_int, cells_bool, cells_ptr])) ?_
 refine WL.box (arr := #[(pq y_8_b), i6 n_1, (.slice none 0 0), (.slice none 0 0), (.slice none 0 0), (.slice none 0 0)]) rfl rfl rfl hS ?_
 clear hS
 intro b_37 w hS
 refine WL.ma rfl rfl ?_
 refine WL.nx ?_
 refine WC.seq ?_
 refine WC.sr ?_
 refine WL.ma rfl rfl ?_
 refine WL.nx ?_
 refine WC.block ?_
 replace hS := hS.nilseg
 replace hS := hS.f2.f9.f9.f9.f9.f9.f9.f9
 obtain ⟨I_72, mu_73, hI_120, hV⟩ := hV
 refine WC.loop (σ := LI × Int) (fun s a w => ∃ (c_53 : LI) (i_57 : Int) (v_54 : Value) (fp_55 : Seg), s = (c_53, i_57) ∧ I_72 (c_53, i_57) ∧ OwnSl H (cInt .i64) 3 v_54 c_53 fp_55 ∧ I64 i_57 ∧ St w0 H ([(y_8_b, oc #[y_8_0v, y_8_1v, y_8_2v, y_8_3v, y_8_4v, y_8_5v] 79)] ++ (y_8_0f ++ (y_8_1f ++ (y_8_2f ++ (y_8_3f ++ (y_8_4f ++ (y_8_5f ++ ([(b_37, oc #[(pq y_8_b), i6 n_1, (.slice none 0 0), (.slice none 0 0), v_54, (.slice none 0 0)] 39)] ++ (fp_55 ++ L))))))))) w ∧ Fr 62 [(0, i6 n_1), (3, (pq y_8_b)), (5, (pq b_37)), (6, i6 i_57)] a) mu_73 (([] : LI), 0) ?_ ?_
 exact fun a ha => ⟨([] : LI), 0, (.slice none 0 0), ([] : Seg), rfl, hI_120, OwnSl.nil, (by unfold I64; omega), hS, ha.of_sub ⟨rfl, rfl, rfl, rfl, trivial⟩⟩
 clear hS hI_120
 rintro _ a w ⟨c_53, i_57, v_54, fp_55, rfl, hI, h_56, hr_58, hS, ha⟩
 refine in_frame ha ?_
 clear ha
 replace hV := hV _ hI
 clear hI
 refine WC.seq ?_
 refine WC.sr ?_
 refine WL.mv rfl rfl ?_
 refine WL.mv rfl rfl ?_
 refine WL.run hS rfl rfl rfl (ex_lss rfl rfl) ?_
 refine WL.nx ?_
 refine WC.cond rfl ?_ ?_
 intro hc_119
 replace hV := hV.1 (of_decide_eq_true hc_119)
 refine WC.skip ?_
 refine WQ.next ?_
 refine WC.seq ?_
 refine WC.block ?_
 refine WC.region ?_
 refine WL.mv rfl rfl ?_
 refine WL.mv rfl rfl ?_
 refine WL.run hS rfl rfl rfl (ex_nilCheck rfl) ?_
 refine WL.run hS rfl rfl rfl (ex_fieldAddr (o' := 4) Try.underlying39 rfl Try.sizeOf27 rfl rfl) ?_
 replace hS := hS.f8
 refine WL.run hS rfl rfl rfl (ex_load_box Try.isAgg27 rfl rfl) ?_
 refine WL.mv rfl rfl ?_
 refine WL.build1 (c := (cInt .i64)) rfl Try.underlying27 Try.info3 rfl rfl (cInt_mk (I64.has hr_58)) hS ?_
 clear hS
 intro v_77 w fp_78 h_79 hS
 obtain ⟨hr_80, hV⟩ := hV
 replace hS := hS.f10
 refine WL.append (c := (cInt .i64)) (xs := c_53) (ys := ([i_57])) rfl Try.underlying27 Try.info3 rfl rfl rfl hS h_56 (h_79.src hS.f2) hr_80.1 hr_80.2 ?_
 clear hS
 intro v_81 w fp_82 h_83 hS
 refine WL.run hS rfl rfl rfl (ex_nilCheck rfl) ?_
 refine WL.run hS rfl rfl rfl (ex_fieldAddr (o' := 4) Try.underlying39 rfl Try.sizeOf27 rfl rfl) ?_
 replace hS := hS.f3
 refine WL.store_box (pre := [(pq y_8_b), i6 n_1, (.slice none 0 0), (.slice none 0 0)]) (old := [v_54]) (rst := [(.slice none 0 0)]) (cs := [v_81]) (arr' := #[(pq y_8_b), i6 n_1, (.slice none 0 0), (.slice none 0 0), v_81, (.slice none 0 0)]) Try.sizeOf27 rfl rfl (congrArg Array.toList (cells_one (OwnSl.one h_83))) ⟨(OwnSl.one h_83), trivial⟩ rfl rfl rfl rfl hS ?_
 clear hS
 intro w hS
 refine WL.nil ?_
 refine WQ.out nofun ?_
 refine WQ.next ?_
 refine WC.sub (m := [(0, i6 n_1), (3, (pq y_8_b)), (5, (pq b_37)), (6, i6 i_57)]) ⟨rfl, rfl, rfl, rfl, trivial⟩ ?_
 replace hS := hS.f3.drop
 refine WC.region ?_
 refine WL.mv rfl rfl ?_
 obtain ⟨hi_86, hV⟩ := hV
 refine WL.run hS rfl rfl rfl (ex_add rfl rfl hi_86) ?_
 refine WL.ma rfl rfl ?_
 refine WL.nil ?_
 replace hS := hS.f2.f2.f9.f9.f9.f9.f9.f9.f9
 exact WQ.there fun a ha => ⟨((c_53 ++ ([i_57])), (i_57 + 1)), ⟨(c_53 ++ ([i_57])), (i_57 + 1), v_81, fp_82, rfl, hV.1, h_83, hi_86, hS, ha.of_sub ⟨rfl, rfl, rfl, rfl, trivial⟩⟩, hV.2⟩
 intro hc_119
 replace hV := hV.2 (of_decide_eq_false hc_119)
 refine WC.exit ?_
 refine WQ.pass nofun ?_
 refine WQ.pass nofun ?_
 refine WQ.hit ?_
 refine WQ.next ?_
 refine WC.sr ?_
 refine WL.mv rfl rfl ?_
 replace hS := hS.f7.f7.f7.f7.f7.f7.f7
 refine WL.call rfl rfl rfl (enters0 (vs := [(pq y_8_b)]) Try.call14 ⟨rfl, trivial⟩) (S_False_  h_16 h_18 h_20 h_22 h_24 h_26 hS hV) ?_
 clear hV hS
 rintro _ w ⟨r_87, hV, rfl, hr_88, hS⟩
 refine ⟨_, rfl, ?_⟩
 refine WL.ma rfl rfl ?_
 refine WL.nx ?_
 refine WC.sr ?_
 refine WL.mv rfl rfl ?_
 replace hS := hS.f7.f7.f7.f7.f7.f7.f7
 refine WL.call rfl rfl rfl (enters0 (vs := [(pq y_8_b)]) Try.call15 ⟨rfl, trivial⟩) (S_True_  h_16 h_18 h_20 h_22 h_24 h_26 hS hV) ?_
 clear hV hS
 rintro _ w ⟨r_90, hV, rfl, hr_91, hS⟩
 refine ⟨_, rfl, ?_⟩
 refine WL.ma rfl rfl ?_
 refine WL.nx ?_
 refine WC.sr ?_
 refine WL.mv rfl rfl ?_
 refine WL.call rfl rfl rfl (enters0 (vs := [i6 n_1, .bool false]) Try.call16 ⟨rfl, rfl, trivial⟩) (S_rConst  hr_2 hS hV) ?_
 clear hV hS
 rintro _ w ⟨r_93, v_94, fp_95, hV, rfl, h_96, hS⟩
 refine ⟨_, rfl, ?_⟩
 refine WL.ma rfl rfl ?_
 refine WL.nx ?_
 refine WC.sub (m := [(0, i6 n_1), (5, (pq b_37)), (7, i6 r_87), (8, i6 r_90), (9, v_94)]) ⟨rfl, rfl, rfl, rfl, rfl, trivial⟩ ?_
 refine WC.sr ?_
 refine WL.mv rfl rfl ?_
 refine WL.call rfl rfl rfl (enters0 (vs := [i6 n_1, .bool true]) Try.call16 ⟨rfl, rfl, trivial⟩) (S_rConst  hr_2 hS hV) ?_
 clear hV hS
 rintro _ w ⟨r_99, v_100, fp_101, hV, rfl, h_102, hS⟩
 refine ⟨_, rfl, ?_⟩
 refine WL.ma rfl rfl ?_
 refine WL.nx ?_
 refine WC.sr ?_
 refine WL.mv rfl rfl ?_
 refine WL.mv rfl rfl ?_
 refine WL.mv rfl rfl ?_
 refine WL.buildn (c := (cInt .i64)) (xs := [r_87, r_90]) (vs := [i6 r_87, i6 r_90]) rfl Try.underlying35 Try.info32 rfl rfl ⟨rfl, rfl, trivial⟩ rfl ⟨_, _, rfl, (cInt_mk (I64.has hr_88)), ⟨_, _, rfl, (cInt_mk (I64.has hr_91)), rfl⟩⟩ hS rfl ?_
 clear hS
 intro v_106 w fp_107 h_108 hS
 refine WL.run hS rfl rfl rfl (ex_nilCheck rfl) ?_
 refine WL.run hS rfl rfl rfl (ex_fieldAddr (o' := 2) Try.underlying39 rfl Try.sizeOf35 rfl rfl) ?_
 replace hS := hS.f11
 refine WL.store_box (pre := [(pq y_8_b), i6 n_1]) (old := [(.slice none 0 0)]) (rst := [(.slice none 0 0), v_54, (.slice none 0 0)]) (cs := [v_106]) (arr' := #[(pq y_8_b), i6 n_1, v_106, (.slice none 0 0), v_54, (.slice none 0 0)]) Try.sizeOf35 rfl rfl (congrArg Array.toList (cells_one (OwnSl.one h_108))) ⟨(OwnSl.one h_108), trivial⟩ rfl rfl rfl rfl hS ?_
 clear hS
 intro w hS
 refine WL.nx ?_
 refine WC.sub (m := [(5, (pq b_37)), (9, v_94), (10, v_100)]) ⟨rfl, rfl, rfl, trivial⟩ ?_
 refine WC.sr ?_
 refine WL.mv rfl rfl ?_
 refine WL.mv rfl rfl ?_
 refine WL.mv rfl rfl ?_
 replace hS := hS.f4
 obtain ⟨H_113, le_114, h_115, hS⟩ : ∃ K, View.le H K ∧ IsSl K cBool v_94 r_93 ∧ St w0 K ([(b_37, oc #[(pq y_8_b), i6 n_1, v_106, (.slice none 0 0), v_54, (.slice none 0 0)] 39)] ++ (fp_107 ++ (fp_101 ++ ([(y_8_b, oc #[y_8_0v, y_8_1v, y_8_2v, y_8_3v, y_8_4v, y_8_5v] 79)] ++ (y_8_0f ++ (y_8_1f ++ (y_8_2f ++ (y_8_3f ++ (y_8_4f ++ (y_8_5f ++ (fp_55 ++ L))))))))))) w := ⟨_, hS.put_le, h_96.share hS.put_le, hS.freeze⟩
 replace hS := hS.f3
 obtain ⟨H_116, le_117, h_118, hS⟩ : ∃ K, View.le H_113 K ∧ IsSl K cBool v_100 r_99 ∧ St w0 K ([(b_37, oc #[(pq y_8_b), i6 n_1, v_106, (.slice none 0 0), v_54, (.slice none 0 0)] 39)] ++ (fp_107 ++ ([(y_8_b, oc #[y_8_0v, y_8_1v, y_8_2v, y_8_3v, y_8_4v, y_8_5v] 79)] ++ (y_8_0f ++ (y_8_1f ++ (y_8_2f ++ (y_8_3f ++ (y_8_4f ++ (y_8_5f ++ (fp_55 ++ L)))))))))) w := ⟨_, hS.put_le, (h_102.mono le_114).share hS.put_le, hS.freeze⟩
 refine WL.buildn (c := (cSl cBool)) (xs := [r_93, r_99]) (vs := [v_94, v_100]) rfl Try.underlying37 Try.info28 rfl rfl ⟨rfl, rfl, trivial⟩ rfl ⟨_, _, rfl, (cSl_mk (h_115.mono le_117)), ⟨_, _, rfl, (cSl_mk h_118), rfl⟩⟩ hS rfl ?_
 clear hS
 intro v_110 w fp_111 h_112 hS
 refine WL.run hS rfl rfl rfl (ex_nilCheck rfl) ?_
 refine WL.run hS rfl rfl rfl (ex_fieldAddr (o' := 3) Try.underlying39 rfl Try.sizeOf37 rfl rfl) ?_
 replace hS := hS.f2
 refine WL.store_box (pre := [(pq y_8_b), i6 n_1, v_106]) (old := [(.slice none 0 0)]) (rst := [v_54, (.slice none 0 0)]) (cs := [v_110]) (arr' := #[(pq y_8_b), i6 n_1, v_106, v_110, v_54, (.slice none 0 0)]) Try.sizeOf37 rfl rfl (congrArg Array.toList (cells_one (OwnSl.one h_112))) ⟨(OwnSl.one h_112), trivial⟩ rfl rfl rfl rfl hS ?_
 clear hS
 intro w hS
 refine WL.nx ?_
 refine WC.sr ?_
 refine WL.mv rfl rfl ?_
 refine WL.ma rfl rfl ?_
 refine WL.nx ?_
 refine WC.sub (m := [(2, (pq b_37))]) ⟨rfl, trivial⟩ ?_
 refine WC.ret ?_
 replace hS := hS.nilseg
 replace hS := hS.f12.f4.f5.f12.f12.f12.f12.f12.f12.f12.f12
 replace hS : St w0 H_116 (([(b_37, oc #[(pq y_8_b), i6 n_1, v_106, v_110, v_54, (.slice none 0 0)] 39)] ++ [(y_8_b, oc #[y_8_0v, y_8_1v, y_8_2v, y_8_3v, y_8_4v, y_8_5v] 79)] ++ (y_8_0f ++ (y_8_1f ++ (y_8_2f ++ (y_8_3f ++ (y_8_4f ++ (y_8_5f ++ (fp_107 ++ (fp_111 ++ (fp_55 ++ (([] : Seg)))))))))))) ++ L) w := by simpa only [List.append_assoc] using hS
 exact leave1 rfl rfl ⟨(some (y_8_0, y_8_1, y_8_2, y_8_3, y_8_4, y_8_5, n_1, [r_87, r_90], [r_93, r_99], c_53, ([] : B2))), ((pq b_37)), ([(b_37, oc #[(pq y_8_b), i6 n_1, v_106, v_110, v_54, (.slice none 0 0)] 39)] ++ [(y_8_b, oc #[y_8_0v, y_8_1v, y_8_2v, y_8_3v, y_8_4v, y_8_5v] 79)] ++ (y_8_0f ++ (y_8_1f ++ (y_8_2f ++ (y_8_3f ++ (y_8_4f ++ (y_8_5f ++ (fp_107 ++ (fp_111 ++ (fp_55 ++ (([] : Seg)))))))))))), H_116, hV, rfl, (((View.le.refl _).trans le_114).trans le_117), (.inr ⟨b_37, y_8_b, y_8_0, y_8_1, y_8_2, y_8_3, y_8_4, y_8_5, n_1, [r_87, r_90], [r_93, r_99], c_53, ([] : B2), y_8_0v, y_8_0f, y_8_1v, y_8_1f, y_8_2v, y_8_2f, y_8_3v, y_8_3f, y_8_4v, y_8_4f, y_8_5v, y_8_5f, v_106, fp_107, v_110, fp_111, v_54, fp_55, (.slice none 0 0), ([] : Seg), rfl, rfl, rfl, ((h_16.mono le_114).mono le_117), ((h_18.mono le_114).mono le_117), ((h_20.mono le_114).mono le_117), ((h_22.mono le_114).mono le_117), ((h_24.mono le_114).mono le_117), ((h_26.mono le_114).mono le_117), hr_2, ((h_108.mono le_114).mono le_117), h_112, ((h_56.mono le_114).mono le_117), OwnSl.nil⟩), hS⟩
 clear hJ_31
 refine WC.region ?_
 refine WL.mv rfl rfl ?_
 refine WL.run hS rfl rfl rfl (ex_err_neq (T := 74) (e := r_9) Try.iface43 rfl rfl) ?_
 refine WL.mv rfl rfl ?_
 rcases Bool.eq_false_or_eq_true (decide (r_9 ≠ none)) with hg_32 | hg_32
 replace hV := hV.1 (of_decide_eq_true hg_32)
 refine WL.skip_g rfl rfl rfl hg_32 rfl rfl ?_
 refine WL.skip_g rfl rfl rfl hg_32 rfl rfl ?_
 refine WL.run hS rfl rfl rfl (ex_pick_t rfl hg_32 rfl) ?_
 refine WL.nil ?_
 replace hS := hS.f7.f7.f7.f7.f7.f7.f7
 exact WQ.there fun a ha => ⟨true, hV, hS, ha.of_sub ⟨rfl, rfl, rfl, trivial⟩⟩
 replace hV := hV.2 (of_decide_eq_false hg_32)
 refine WL.unguard rfl rfl hg_32 ?_
 refine WL.mv rfl rfl ?_
 refine WL.unguard rfl rfl hg_32 ?_
 refine WL.run hS rfl rfl rfl (ex_ptr_eql Try.ptr36 rfl) ?_
 refine WL.run hS rfl rfl rfl (ex_pick_f rfl hg_32 rfl) ?_
 refine WL.nil ?_
 replace hS := hS.f7.f7.f7.f7.f7.f7.f7
 exact WQ.there fun a ha => ⟨false, hV, hS, ha.of_sub ⟨rfl, rfl, rfl, trivial⟩⟩

theorem S_wmade {w0 : World} {H : View} {L : Seg} {w : World} {b_2 : Nat} {b_5 : Nat} {v_8 : Value} {nodes_7 : N3} {fp_10 : Seg} {v_13 : Value} {free_12 : LI} {fp_15 : Seg} {v_18 : Value} {xby_17 : M3} {fp_20 : Seg} {v_23 : Value} {order_22 : LI} {fp_25 : Seg} {v_28 : Value} {level_27 : LI} {fp_30 : Seg} {v_33 : Value} {memo_32 : M3} {fp_35 : Seg} {n_37 : Int} {v_40 : Value} {nodes_39 : LI} {fp_42 : Seg} {v_45 : Value} {fs_44 : B2} {fp_47 : Seg} {v_50 : Value} {order_49 : LI} {fp_52 : Seg} {v_55 : Value} {given_54 : B2} {fp_57 : Seg} {Kind_60 : Int} {A_62 : Int} {B_64 : Int} {C_66 : Int} {v_69 : Value} {Vars_68 : LI} {v_72 : Value} {At_71 : List Bool} {Q : Int → (List Bool) → Bool → N3 → LI → M3 → M3 → Prop} (h_9 : OwnSl H (cPair (cInt .i64) (cPair (cInt .i64) (cInt .i64))) 81 v_8 nodes_7 fp_10) (h_14 : OwnSl H (cInt .i64) 32 v_13 free_12 fp_15) (h_19 : OwnMp H kTri (cInt .i64) v_18 xby_17 fp_20) (h_24 : OwnSl H (cInt .i64) 3 v_23 order_22 fp_25) (h_29 : OwnSl H (cInt .i64) 3 v_28 level_27 fp_30) (h_34 : OwnMp H kTri (cInt .i64) v_33 memo_32 fp_35) (hr_38 : I64 n_37) (h_41 : OwnSl H (cInt .i64) 32 v_40 nodes_39 fp_42) (h_46 : OwnSl H (cSl cBool) 28 v_45 fs_44 fp_47) (h_51 : OwnSl H (cInt .i64) 3 v_50 order_49 fp_52) (h_56 : OwnSl H (cSl cBool) 28 v_55 given_54 fp_57) (hr_61 : I64 Kind_60) (hr_63 : I64 A_62) (hr_65 : I64 B_64) (hr_67 : I64 C_66) (h_70 : IsSl H (cInt .i64) v_69 Vars_68) (h_73 : IsSl H cBool v_72 At_71) (hS : St w0 H ([(b_2, oc #[(pq b_5), i6 n_37, v_40, v_45, v_50, v_55] 39)] ++ ([(b_5, oc #[v_8, v_13, v_18, v_23, v_28, v_33] 79)] ++ (fp_10 ++ (fp_15 ++ (fp_20 ++ (fp_25 ++ (fp_30 ++ (fp_35 ++ (fp_42 ++ (fp_47 ++ (fp_52 ++ (fp_57 ++ L)))))))))))) w) (hV : V_wmade nodes_7 free_12 xby_17 order_22 level_27 memo_32 n_37 nodes_39 fs_44 order_49 given_54 Kind_60 A_62 B_64 C_66 Vars_68 At_71 Q) :
 Calls Try.prog 10 #[(pq b_2), .agg #[i6 Kind_60, i6 A_62, i6 B_64, i6 C_66, v_69, v_72]] w fun e w' => ∃ (r1 : Int) (r2 : List Bool) (r3 : Bool) (r4 : N3) (r5 : LI) (r6 : M3) (r7 : M3) (v2 : Value) (v4 : Value) (fp4 : Seg) (v5 : Value) (fp5 : Seg) (fp6 : Seg) (fp7 : Seg) (H' : View), Q r1 r2 r3 r4 r5 r6 r7 ∧ e = .returned (.tuple #[i6 r1, v2, .bool r3]) ∧ View.le H H' ∧ I64 r1 ∧ IsSl H' cBool v2 r2 ∧ OwnSl H' (cPair (cInt .i64) (cPair (cInt .i64) (cInt .i64))) 81 v4 r4 fp4 ∧ OwnSl H' (cInt .i64) 32 v5 r5 fp5 ∧ OwnMp H' kTri (cInt .i64) v_18 r6 fp6 ∧ OwnMp H' kTri (cInt .i64) v_33 r7 fp7 ∧ St w0 H' ([(b_2, oc #[(pq b_5), i6 n_37, v_40, v_45, v_50, v_55] 39)] ++ ([(b_5, oc #[v4, v5, v_18, v_23, v_28, v_33] 79)] ++ (fp4 ++ (fp5 ++ (fp6 ++ (fp_25 ++ (fp_30 ++ (fp7 ++ (fp_42 ++ (fp_47 ++ (fp_52 ++ (fp_57 ++ L)))))))))))) w' := by
 unfold V_wmade at hV
 refine enter Try.func10 rfl Try.ntmps10 rfl (lk_args_cons (d := 0) (v := (pq b_2)) rfl (lk_args_cons (d := 1) (v := .agg #[i6 Kind_60, i6 A_62, i6 B_64, i6 C_66, v_69, v_72]) rfl (lk_args_nil _))) ?_
 refine WC.sr ?_
 refine WL.box (arr := #[i6 Kind_60, i6 A_62, i6 B_64, i6 C_66, v_69, v_72]) rfl rfl rfl hS ?_
 clear hS
 intro b_74 w hS
 refine WL.ma rfl rfl ?_
 refine WL.ma rfl rfl ?_
 refine WL.ma rfl rfl ?_
 refine WL.nx ?_
 refine WC.sr ?_
 refine WL.mv rfl rfl ?_
 refine WL.run hS rfl rfl rfl (ex_nilCheck rfl) ?_
 refine WL.run hS rfl rfl rfl (ex_fieldAddr (o' := 2) Try.underlying39 rfl Try.sizeOf35 rfl rfl) ?_
 replace hS := hS.f2
 refine WL.run hS rfl rfl rfl (ex_load_box Try.isAgg35 rfl rfl) ?_
 have hl_77 : Len nodes_39 := h_41.bound
 replace hV := hV hl_77
 refine WL.run hS rfl rfl rfl (ex_len_own Try.underlying35 rfl h_41) ?_
 refine WL.ma rfl rfl ?_
 refine WL.nx ?_
 refine WC.sr ?_
 refine WL.run hS rfl rfl rfl (ex_fieldAddr (o' := 1) Try.underlying30 rfl Try.sizeOf3 rfl rfl) ?_
 replace hS := hS.f2
 refine WL.run hS rfl rfl rfl (ex_load_box Try.isAgg3 rfl rfl) ?_
 refine WL.mv rfl rfl ?_
 refine WL.call rfl rfl rfl (enters0 (vs := [i6 A_62, i6 (nodes_39.length : Int)]) Try.call17 ⟨rfl, rfl, trivial⟩) (S_pick  hr_63 (Len.i64 hl_77) hS hV) ?_
 clear hV hS
 rintro _ w ⟨r_78, hV, rfl, hr_79, hS⟩
 refine ⟨_, rfl, ?_⟩
 refine WL.ma rfl rfl ?_
 refine WL.nx ?_
 refine WC.sub (m := [(0, (pq b_2)), (3, (pq b_74)), (7, i6 (nodes_39.length : Int)), (8, i6 r_78)]) ⟨rfl, rfl, rfl, rfl, trivial⟩ ?_
 refine WC.sr ?_
 refine WL.run hS rfl rfl rfl (ex_fieldAddr (o' := 2) Try.underlying30 rfl Try.sizeOf3 rfl rfl) ?_
 refine WL.run hS rfl rfl rfl (ex_load_box Try.isAgg3 rfl rfl) ?_
 refine WL.mv rfl rfl ?_
 refine WL.call rfl rfl rfl (enters0 (vs := [i6 B_64, i6 (nodes_39.length : Int)]) Try.call17 ⟨rfl, rfl, trivial⟩) (S_pick  hr_65 (Len.i64 hl_77) hS hV) ?_
 clear hV hS
 rintro _ w ⟨r_81, hV, rfl, hr_82, hS⟩
 refine ⟨_, rfl, ?_⟩
 refine WL.ma rfl rfl ?_
 refine WL.nx ?_
 refine WC.sr ?_
 refine WL.run hS rfl rfl rfl (ex_fieldAddr (o' := 3) Try.underlying30 rfl Try.sizeOf3 rfl rfl) ?_
 refine WL.run hS rfl rfl rfl (ex_load_box Try.isAgg3 rfl rfl) ?_
 refine WL.mv rfl rfl ?_
 refine WL.call rfl rfl rfl (enters0 (vs := [i6 C_66, i6 (nodes_39.length : Int)]) Try.call17 ⟨rfl, rfl, trivial⟩) (S_pick  hr_67 (Len.i64 hl_77) hS hV) ?_
 clear hV hS
 rintro _ w ⟨r_84, hV, rfl, hr_85, hS⟩
 refine ⟨_, rfl, ?_⟩
 refine WL.ma rfl rfl ?_
 refine WL.nx ?_
 refine WC.sr ?_
 refine WL.mv rfl rfl ?_
 refine WL.run hS rfl rfl rfl (ex_nilCheck rfl) ?_
 refine WL.run hS rfl rfl rfl (ex_fieldAddr (o' := 2) Try.underlying39 rfl Try.sizeOf35 rfl rfl) ?_
 replace hS := hS.f2
 refine WL.run hS rfl rfl rfl (ex_load_box Try.isAgg35 rfl rfl) ?_
 refine WL.mv rfl rfl ?_
 obtain ⟨hin_87, hV⟩ := hV
 refine WL.runx hS rfl rfl rfl (ex_index_own Try.underlying35 Try.sizeOf32 rfl rfl h_41 hin_87) ?_
 intro p_88 hp_89
 replace hS := hS.f10
 refine WL.runx hS rfl rfl rfl (exNow (H := H) (L := [(b_2, oc #[(pq b_5), i6 n_37, v_40, v_45, v_50, v_55] 39)] ++ ([(b_74, oc #[i6 Kind_60, i6 A_62, i6 B_64, i6 C_66, v_69, v_72] 30)] ++ ([(b_5, oc #[v_8, v_13, v_18, v_23, v_28, v_33] 79)] ++ (fp_10 ++ (fp_15 ++ (fp_20 ++ (fp_25 ++ (fp_30 ++ (fp_35 ++ (fp_47 ++ (fp_52 ++ (fp_57 ++ L)))))))))))) (ex_load_own_s Try.isAgg32 rfl rfl h_41 hp_89 hin_87)) ?_
 intro u_90 hu_91
 obtain ⟨rfl, hr_92⟩ := cInt_rep hu_91
 replace hr_92 := has_I64 hr_92
 replace hV := hV hr_92
 refine WL.ma rfl rfl ?_
 refine WL.nx ?_
 refine WC.sub (m := [(0, (pq b_2)), (3, (pq b_74)), (8, i6 r_78), (9, i6 r_81), (10, i6 r_84), (11, i6 (ix nodes_39 r_78))]) ⟨rfl, rfl, rfl, rfl, rfl, rfl, trivial⟩ ?_
 refine WC.sr ?_
 refine WL.mv rfl rfl ?_
 refine WL.run hS rfl rfl rfl (ex_nilCheck rfl) ?_
 refine WL.run hS rfl rfl rfl (ex_fieldAddr (o' := 2) Try.underlying39 rfl Try.sizeOf35 rfl rfl) ?_
 replace hS := hS.f2
 refine WL.run hS rfl rfl rfl (ex_load_box Try.isAgg35 rfl rfl) ?_
 refine WL.mv rfl rfl ?_
 obtain ⟨hin_93, hV⟩ := hV
 refine WL.runx hS rfl rfl rfl (ex_index_own Try.underlying35 Try.sizeOf32 rfl rfl h_41 hin_93) ?_
 intro p_94 hp_95
 replace hS := hS.f2
 refine WL.runx hS rfl rfl rfl (exNow (H := H) (L := [(b_2, oc #[(pq b_5), i6 n_37, v_40, v_45, v_50, v_55] 39)] ++ ([(b_74, oc #[i6 Kind_60, i6 A_62, i6 B_64, i6 C_66, v_69, v_72] 30)] ++ ([(b_5, oc #[v_8, v_13, v_18, v_23, v_28, v_33] 79)] ++ (fp_10 ++ (fp_15 ++ (fp_20 ++ (fp_25 ++ (fp_30 ++ (fp_35 ++ (fp_47 ++ (fp_52 ++ (fp_57 ++ L)))))))))))) (ex_load_own_s Try.isAgg32 rfl rfl h_41 hp_95 hin_93)) ?_
 intro u_96 hu_97
 obtain ⟨rfl, hr_98⟩ := cInt_rep hu_97
 replace hr_98 := has_I64 hr_98
 replace hV := hV hr_98
 refine WL.ma rfl rfl ?_
 refine WL.nx ?_
 refine WC.sr ?_
 refine WL.mv rfl rfl ?_
 refine WL.run hS rfl rfl rfl (ex_nilCheck rfl) ?_
 refine WL.run hS rfl rfl rfl (ex_fieldAddr (o' := 2) Try.underlying39 rfl Try.sizeOf35 rfl rfl) ?_
 replace hS := hS.f2
 refine WL.run hS rfl rfl rfl (ex_load_box Try.isAgg35 rfl rfl) ?_
 refine WL.mv rfl rfl ?_
 obtain ⟨hin_99, hV⟩ := hV
 refine WL.runx hS rfl rfl rfl (ex_index_own Try.underlying35 Try.sizeOf32 rfl rfl h_41 hin_99) ?_
 intro p_100 hp_101
 replace hS := hS.f2
 refine WL.runx hS rfl rfl rfl (exNow (H := H) (L := [(b_2, oc #[(pq b_5), i6 n_37, v_40, v_45, v_50, v_55] 39)] ++ ([(b_74, oc #[i6 Kind_60, i6 A_62, i6 B_64, i6 C_66, v_69, v_72] 30)] ++ ([(b_5, oc #[v_8, v_13, v_18, v_23, v_28, v_33] 79)] ++ (fp_10 ++ (fp_15 ++ (fp_20 ++ (fp_25 ++ (fp_30 ++ (fp_35 ++ (fp_47 ++ (fp_52 ++ (fp_57 ++ L)))))))))))) (ex_load_own_s Try.isAgg32 rfl rfl h_41 hp_101 hin_99)) ?_
 intro u_102 hu_103
 obtain ⟨rfl, hr_104⟩ := cInt_rep hu_103
 replace hr_104 := has_I64 hr_104
 replace hV := hV hr_104
 refine WL.ma rfl rfl ?_
 refine WL.nx ?_
 refine WC.sub (m := [(0, (pq b_2)), (3, (pq b_74)), (8, i6 r_78), (9, i6 r_81), (10, i6 r_84), (11, i6 (ix nodes_39 r_78)), (12, i6 (ix nodes_39 r_81)), (13, i6 (ix nodes_39 r_84))]) ⟨rfl, rfl, rfl, rfl, rfl, rfl, rfl, rfl, trivial⟩ ?_
 refine WC.sr ?_
 refine WL.mv rfl rfl ?_
 refine WL.run hS rfl rfl rfl (ex_nilCheck rfl) ?_
 refine WL.run hS rfl rfl rfl (ex_fieldAddr (o' := 3) Try.underlying39 rfl Try.sizeOf37 rfl rfl) ?_
 replace hS := hS.f2
 refine WL.run hS rfl rfl rfl (ex_load_box Try.isAgg37 rfl rfl) ?_
 refine WL.mv rfl rfl ?_
 obtain ⟨hin_105, hV⟩ := hV
 refine WL.runx hS rfl rfl rfl (ex_index_own Try.underlying37 Try.sizeOf28 rfl rfl h_46 hin_105) ?_
 intro p_106 hp_107
 replace hS := hS.f11
 refine WL.runx hS rfl rfl rfl (exNow (H := H) (L := [(b_2, oc #[(pq b_5), i6 n_37, v_40, v_45, v_50, v_55] 39)] ++ (fp_42 ++ ([(b_74, oc #[i6 Kind_60, i6 A_62, i6 B_64, i6 C_66, v_69, v_72] 30)] ++ ([(b_5, oc #[v_8, v_13, v_18, v_23, v_28, v_33] 79)] ++ (fp_10 ++ (fp_15 ++ (fp_20 ++ (fp_25 ++ (fp_30 ++ (fp_35 ++ (fp_52 ++ (fp_57 ++ L)))))))))))) (ex_load_own_s Try.isAgg28 rfl rfl h_46 hp_107 hin_105)) ?_
 intro u_108 hu_109
 replace hu_109 := cSl_rep hu_109
 refine WL.ma rfl rfl ?_
 refine WL.nx ?_
 refine WC.sr ?_
 refine WL.mv rfl rfl ?_
 refine WL.run hS rfl rfl rfl (ex_nilCheck rfl) ?_
 refine WL.run hS rfl rfl rfl (ex_fieldAddr (o' := 3) Try.underlying39 rfl Try.sizeOf37 rfl rfl) ?_
 replace hS := hS.f2
 refine WL.run hS rfl rfl rfl (ex_load_box Try.isAgg37 rfl rfl) ?_
 refine WL.mv rfl rfl ?_
 obtain ⟨hin_110, hV⟩ := hV
 refine WL.runx hS rfl rfl rfl (ex_index_own Try.underlying37 Try.sizeOf28 rfl rfl h_46 hin_110) ?_
 intro p_111 hp_112
 replace hS := hS.f2
 refine WL.runx hS rfl rfl rfl (exNow (H := H) (L := [(b_2, oc #[(pq b_5), i6 n_37, v_40, v_45, v_50, v_55] 39)] ++ (fp_42 ++ ([(b_74, oc #[i6 Kind_60, i6 A_62, i6 B_64, i6 C_66, v_69, v_72] 30)] ++ ([(b_5, oc #[v_8, v_13, v_18, v_23, v_28, v_33] 79)] ++ (fp_10 ++ (fp_15 ++ (fp_20 ++ (fp_25 ++ (fp_30 ++ (fp_35 ++ (fp_52 ++ (fp_57 ++ L)))))))))))) (ex_load_own_s Try.isAgg28 rfl rfl h_46 hp_112 hin_110)) ?_
 intro u_113 hu_114
 replace hu_114 := cSl_rep hu_114
 refine WL.ma rfl rfl ?_
 refine WL.nx ?_
 refine WC.sub (m := [(0, (pq b_2)), (3, (pq b_74)), (10, i6 r_84), (11, i6 (ix nodes_39 r_78)), (12, i6 (ix nodes_39 r_81)), (13, i6 (ix nodes_39 r_84)), (14, u_108), (15, u_113)]) ⟨rfl, rfl, rfl, rfl, rfl, rfl, rfl, rfl, trivial⟩ ?_
 refine WC.sr ?_
 refine WL.mv rfl rfl ?_
 refine WL.run hS rfl rfl rfl (ex_nilCheck rfl) ?_
 refine WL.run hS rfl rfl rfl (ex_fieldAddr (o' := 3) Try.underlying39 rfl Try.sizeOf37 rfl rfl) ?_
 replace hS := hS.f2
 refine WL.run hS rfl rfl rfl (ex_load_box Try.isAgg37 rfl rfl) ?_
 refine WL.mv rfl rfl ?_
 obtain ⟨hin_115, hV⟩ := hV
 refine WL.runx hS rfl rfl rfl (ex_index_own Try.underlying37 Try.sizeOf28 rfl rfl h_46 hin_115) ?_
 intro p_116 hp_117
 replace hS := hS.f2
 refine WL.runx hS rfl rfl rfl (exNow (H := H) (L := [(b_2, oc #[(pq b_5), i6 n_37, v_40, v_45, v_50, v_55] 39)] ++ (fp_42 ++ ([(b_74, oc #[i6 Kind_60, i6 A_62, i6 B_64, i6 C_66, v_69, v_72] 30)] ++ ([(b_5, oc #[v_8, v_13, v_18, v_23, v_28, v_33] 79)] ++ (fp_10 ++ (fp_15 ++ (fp_20 ++ (fp_25 ++ (fp_30 ++ (fp_35 ++ (fp_52 ++ (fp_57 ++ L)))))))))))) (ex_load_own_s Try.isAgg28 rfl rfl h_46 hp_117 hin_115)) ?_
 intro u_118 hu_119
 replace hu_119 := cSl_rep hu_119
 refine WL.ma rfl rfl ?_
 refine WL.nx ?_
 refine WC.sr ?_
 refine WL.mv rfl rfl ?_
 refine WL.run hS rfl rfl rfl (ex_nilCheck rfl) ?_
 refine WL.run hS rfl rfl rfl (ex_fieldAddr (o' := 3) Try.underlying39 rfl Try.sizeOf37 rfl rfl) ?_
 replace hS := hS.f2
 refine WL.run hS rfl rfl rfl (ex_load_box Try.isAgg37 rfl rfl) ?_
 obtain ⟨hin_120, hV⟩ := hV
 refine WL.runx hS rfl rfl rfl (ex_index_own Try.underlying37 Try.sizeOf28 rfl rfl h_46 hin_120) ?_
 intro p_121 hp_122
 replace hS := hS.f2
 refine WL.runx hS rfl rfl rfl (exNow (H := H) (L := [(b_2, oc #[(pq b_5), i6 n_37, v_40, v_45, v_50, v_55] 39)] ++ (fp_42 ++ ([(b_74, oc #[i6 Kind_60, i6 A_62, i6 B_64, i6 C_66, v_69, v_72] 30)] ++ ([(b_5, oc #[v_8, v_13, v_18, v_23, v_28, v_33] 79)] ++ (fp_10 ++ (fp_15 ++ (fp_20 ++ (fp_25 ++ (fp_30 ++ (fp_35 ++ (fp_52 ++ (fp_57 ++ L)))))))))))) (ex_load_own_s Try.isAgg28 rfl rfl h_46 hp_122 hin_120)) ?_
 intro u_123 hu_124
 replace hu_124 := cSl_rep hu_124
 refine WL.ma rfl rfl ?_
 refine WL.nx ?_
 refine WC.sub (m := [(0, (pq b_2)), (3, (pq b_74)), (11, i6 (ix nodes_39 r_78)), (12, i6 (ix nodes_39 r_81)), (13, i6 (ix nodes_39 r_84)), (14, u_108), (15, u_113), (16, u_118), (17, u_123)]) ⟨rfl, rfl, rfl, rfl, rfl, rfl, rfl, rfl, rfl, trivial⟩ ?_
 refine WC.sr ?_
 refine WL.mv rfl rfl ?_
 refine WL.run hS rfl rfl rfl (ex_nilCheck rfl) ?_
 refine WL.run hS rfl rfl rfl (ex_fieldAddr (o' := 3) Try.underlying39 rfl Try.sizeOf37 rfl rfl) ?_
 replace hS := hS.f2
 refine WL.run hS rfl rfl rfl (ex_load_box Try.isAgg37 rfl rfl) ?_
 obtain ⟨hin_125, hV⟩ := hV
 refine WL.runx hS rfl rfl rfl (ex_index_own Try.underlying37 Try.sizeOf28 rfl rfl h_46 hin_125) ?_
 intro p_126 hp_127
 replace hS := hS.f2
 refine WL.runx hS rfl rfl rfl (exNow (H := H) (L := [(b_2, oc #[(pq b_5), i6 n_37, v_40, v_45, v_50, v_55] 39)] ++ (fp_42 ++ ([(b_74, oc #[i6 Kind_60, i6 A_62, i6 B_64, i6 C_66, v_69, v_72] 30)] ++ ([(b_5, oc #[v_8, v_13, v_18, v_23, v_28, v_33] 79)] ++ (fp_10 ++ (fp_15 ++ (fp_20 ++ (fp_25 ++ (fp_30 ++ (fp_35 ++ (fp_52 ++ (fp_57 ++ L)))))))))))) (ex_load_own_s Try.isAgg28 rfl rfl h_46 hp_127 hin_125)) ?_
 intro u_128 hu_129
 replace hu_129 := cSl_rep hu_129
 refine WL.ma rfl rfl ?_
 refine WL.nx ?_
 refine WC.sr ?_
 refine WL.build0 (α := Int) (c := (cInt .i64)) rfl Try.underlying27 Try.sizeOf3 hS ?_
 clear hS
 intro v_131 w fp_132 h_133 hS
 refine WL.run hS rfl rfl rfl (ex_fieldAddr (o' := 4) Try.underlying30 rfl Try.sizeOf27 rfl rfl) ?_
 replace hS := hS.f5
 refine WL.run hS rfl rfl rfl (ex_load_box Try.isAgg27 rfl rfl) ?_
 obtain ⟨hr_134, hV⟩ := hV
 replace hS := hS.f2
 refine WL.append (c := (cInt .i64)) (xs := ([] : LI)) (ys := Vars_68) rfl Try.underlying27 Try.info3 rfl rfl rfl hS h_133 (h_70.src hS) hr_134.1 hr_134.2 ?_
 clear hS
 intro v_135 w fp_136 h_137 hS
 rw [List.nil_append] at h_137
 refine WL.ma rfl rfl ?_
 refine WL.nx ?_
 refine WC.seq ?_
 refine WC.sr ?_
 refine WL.run hS rfl rfl rfl (ex_fieldAddr (o' := 0) Try.underlying30 rfl Try.sizeOf3 rfl rfl) ?_
 replace hS := hS.f2
 refine WL.run hS rfl rfl rfl (ex_load_box Try.isAgg3 rfl rfl) ?_
 refine WL.nx ?_
 refine WC.sub (m := [(0, (pq b_2)), (3, (pq b_74)), (11, i6 (ix nodes_39 r_78)), (12, i6 (ix nodes_39 r_81)), (13, i6 (ix nodes_39 r_84)), (14, u_108), (15, u_113), (16, u_118), (17, u_123), (18, u_128), (19, v_135), (107, i6 Kind_60)]) ⟨rfl, rfl, rfl, rfl, rfl, rfl, rfl, rfl, rfl, rfl, rfl, rfl, trivial⟩ ?_
 refine WC.block ?_
 refine WC.sr ?_
 refine WL.run hS rfl rfl rfl (ex_eql rfl rfl) ?_
 refine WL.ma rfl rfl ?_
 refine WL.nx ?_
 refine WC.cond rfl ?_ ?_
 intro hc_734
 replace hV := hV.1 (of_decide_eq_true hc_734)
 refine WC.seq ?_
 refine WC.drawn (σ := [0, 1, 2, 3, 4, 5, 6, 7]) (C := St w0 H ([(b_74, oc #[i6 Kind_60, i6 A_62, i6 B_64, i6 C_66, v_69, v_72] 30)] ++ (fp_136 ++ (fp_47 ++ ([(b_2, oc #[(pq b_5), i6 n_37, v_40, v_45, v_50, v_55] 39)] ++ (fp_42 ++ ([(b_5, oc #[v_8, v_13, v_18, v_23, v_28, v_33] 79)] ++ (fp_10 ++ (fp_15 ++ (fp_20 ++ (fp_25 ++ (fp_30 ++ (fp_35 ++ (fp_52 ++ (fp_57 ++ L))))))))))))))) [[], [0], [0, 1], [0, 1, 2], [], [4], [0, 1, 2, 3, 4, 5], [0, 1, 2, 3, 4, 5, 6]] [6] Try.mixed (by kernel_rfl) (hS.drawn _) ?_
 clear hS w
 refine Wd.run rfl rfl rfl rfl (fun _ => ex_move rfl) fun q_141 hq_140 => ?_
 refine Wd.run rfl rfl rfl rfl (fun _ => ex_nilCheck rfl) fun q_143 hq_142 => ?_
 refine Wd.run rfl rfl rfl rfl (fun _ => ex_fieldAddr (o' := 0) Try.underlying39 rfl Try.sizeOf36 rfl rfl) fun q_145 hq_144 => ?_
 refine Wd.runb (off := 0) rfl rfl rfl rfl (fun _ _ _ h => ex_load_box Try.isAgg36 rfl h) rfl (fun _ h => St.f4 h) fun q_147 hq_146 => ?_
 refine Wd.run rfl rfl rfl rfl (fun _ => ex_fieldAddr (o' := 1) Try.underlying30 rfl Try.sizeOf3 rfl rfl) fun q_149 hq_148 => ?_
 refine Wd.runb (off := 1) rfl rfl rfl rfl (fun _ _ _ h => ex_load_box Try.isAgg3 rfl h) rfl (fun _ h => h) fun q_151 hq_150 => ?_
 refine Wd.turn rfl rfl rfl fun w hS => ?_
 replace hS := hS.f12.f12.f12.f12.f12.f12.f12
 refine WL.call rfl rfl rfl (enters0 (vs := [(pq b_5), i6 A_62]) Try.call27 ⟨rfl, rfl, trivial⟩) (S_Var  h_9 h_14 h_19 h_24 h_29 h_34 hr_63 hS hV) ?_
 clear hV hS
 rintro _ w ⟨r_152, c_154, c_158, m_162, v_155, fp_156, v_159, fp_160, fp_163, hV, rfl, hr_153, h_157, h_161, h_164, hS⟩
 refine ⟨_, rfl, ?_⟩
 refine WL.nil (DQ.mk2 (C' := St w0 H ([(b_5, oc #[v_155, v_159, v_18, v_23, v_28, v_33] 79)] ++ (fp_156 ++ (fp_160 ++ (fp_163 ++ (fp_25 ++ (fp_30 ++ (fp_35 ++ ([(b_74, oc #[i6 Kind_60, i6 A_62, i6 B_64, i6 C_66, v_69, v_72] 30)] ++ (fp_136 ++ (fp_47 ++ ([(b_2, oc #[(pq b_5), i6 n_37, v_40, v_45, v_50, v_55] 39)] ++ (fp_42 ++ (fp_52 ++ (fp_57 ++ L))))))))))))))) hS ⟨il, il, il, il, il, il, trivial⟩ ?_)
 clear hS w
 refine Wd.run rfl rfl rfl rfl (fun _ => ex_assign rfl) fun q_169 hq_168 => ?_
 refine Wd.nil fun w hS => ?_
 refine WQ.next ?_
 refine WC.sub (m := [(0, (pq b_2)), (3, (pq b_74)), (20, i6 r_152)]) ⟨rfl, rfl, rfl, trivial⟩ ?_
 replace hS := hS.f9.drop
 refine WC.seq ?_
 refine WC.drawn (σ := [0, 1, 2, 3, 4, 5, 6, 7]) (C := St w0 H ([(b_5, oc #[v_155, v_159, v_18, v_23, v_28, v_33] 79)] ++ (fp_156 ++ (fp_160 ++ (fp_163 ++ (fp_25 ++ (fp_30 ++ (fp_35 ++ ([(b_74, oc #[i6 Kind_60, i6 A_62, i6 B_64, i6 C_66, v_69, v_72] 30)] ++ (fp_47 ++ ([(b_2, oc #[(pq b_5), i6 n_37, v_40, v_45, v_50, v_55] 39)] ++ (fp_42 ++ (fp_52 ++ (fp_57 ++ L)))))))))))))) [[], [0], [0, 1], [0, 1, 2], [], [4], [0, 1, 2, 3, 4, 5], [0, 1, 2, 3, 4, 5, 6]] [6] Try.mixed (by kernel_rfl) (hS.drawn _) ?_
 clear hS w
 refine Wd.run rfl rfl rfl rfl (fun _ => ex_move rfl) fun q_171 hq_170 => ?_
 refine Wd.run rfl rfl rfl rfl (fun _ => ex_nilCheck rfl) fun q_173 hq_172 => ?_
 refine Wd.run rfl rfl rfl rfl (fun _ => ex_fieldAddr (o' := 1) Try.underlying39 rfl Try.sizeOf3 rfl rfl) fun q_175 hq_174 => ?_
 refine Wd.runb (off := 1) rfl rfl rfl rfl (fun _ _ _ h => ex_load_box Try.isAgg3 rfl h) rfl (fun _ h => St.f10 h) fun q_177 hq_176 => ?_
 refine Wd.run rfl rfl rfl rfl (fun _ => ex_fieldAddr (o' := 1) Try.underlying30 rfl Try.sizeOf3 rfl rfl) fun q_179 hq_178 => ?_
 refine Wd.runb (off := 1) rfl rfl rfl rfl (fun _ _ _ h => ex_load_box Try.isAgg3 rfl h) rfl (fun _ h => St.f8 h) fun q_181 hq_180 => ?_
 refine Wd.turn rfl rfl rfl fun w hS => ?_
 refine WL.call rfl rfl rfl (enters0 (vs := [i6 n_37, i6 A_62]) Try.call28 ⟨rfl, rfl, trivial⟩) (S_rVar  hr_38 hr_63 hS hV) ?_
 clear hV hS
 rintro _ w ⟨r_182, v_183, fp_184, hV, rfl, h_185, hS⟩
 refine ⟨_, rfl, ?_⟩
 refine WL.nil (DQ.mk2 (C' := St w0 H (fp_184 ++ ([(b_5, oc #[v_155, v_159, v_18, v_23, v_28, v_33] 79)] ++ (fp_156 ++ (fp_160 ++ (fp_163 ++ (fp_25 ++ (fp_30 ++ (fp_35 ++ ([(b_74, oc #[i6 Kind_60, i6 A_62, i6 B_64, i6 C_66, v_69, v_72] 30)] ++ (fp_47 ++ ([(b_2, oc #[(pq b_5), i6 n_37, v_40, v_45, v_50, v_55] 39)] ++ (fp_42 ++ (fp_52 ++ (fp_57 ++ L))))))))))))))) hS ⟨il, il, il, il, il, il, trivial⟩ ?_)
 clear hS w
 refine Wd.run rfl rfl rfl rfl (fun _ => ex_assign rfl) fun q_189 hq_188 => ?_
 refine Wd.nil fun w hS => ?_
 refine WQ.next ?_
 replace hS := hS.f9.drop
 refine WC.sr ?_
 refine WL.mv rfl rfl ?_
 refine WL.mv rfl rfl ?_
 refine WL.ma rfl rfl ?_
 refine WL.ma rfl rfl ?_
 refine WL.ma rfl rfl ?_
 refine WL.nx ?_
 refine WC.sub (m := [(4, i6 r_152), (5, v_183), (6, .bool true)]) ⟨rfl, rfl, rfl, trivial⟩ ?_
 refine WC.ret ?_
 refine WQ.out nofun ?_
 refine WQ.pass nofun ?_
 obtain ⟨H_190, le_191, h_192, hS⟩ : ∃ K, View.le H K ∧ IsSl K cBool v_183 r_182 ∧ St w0 K ([(b_5, oc #[v_155, v_159, v_18, v_23, v_28, v_33] 79)] ++ (fp_156 ++ (fp_160 ++ (fp_163 ++ (fp_25 ++ (fp_30 ++ (fp_35 ++ (fp_47 ++ ([(b_2, oc #[(pq b_5), i6 n_37, v_40, v_45, v_50, v_55] 39)] ++ (fp_42 ++ (fp_52 ++ (fp_57 ++ L)))))))))))) w := ⟨_, hS.put_le, h_185.share hS.put_le, hS.freeze⟩
 replace hS := hS.f12.f12.f10.f12.f11.f11.f11.f11.f11.f11.f11.f12
 exact leave3 rfl rfl rfl rfl ⟨r_152, r_182, true, c_154, c_158, m_162, memo_32, v_183, v_155, fp_156, v_159, fp_160, fp_163, fp_35, H_190, hV, rfl, ((View.le.refl _).trans le_191), hr_153, h_192, (h_157.mono le_191), (h_161.mono le_191), (h_164.mono le_191), (h_34.mono le_191), hS⟩
 intro hc_734
 replace hV := hV.2 (of_decide_eq_false hc_734)
 refine WC.sr ?_
 refine WL.run hS rfl rfl rfl (ex_eql rfl rfl) ?_
 refine WL.ma rfl rfl ?_
 refine WL.nx ?_
 refine WC.cond rfl ?_ ?_
 intro hc_733
 replace hV := hV.1 (of_decide_eq_true hc_733)
 refine WC.sr ?_
 refine WL.mv rfl rfl ?_
 refine WL.run hS rfl rfl rfl (ex_nilCheck rfl) ?_
 refine WL.run hS rfl rfl rfl (ex_fieldAddr (o' := 0) Try.underlying39 rfl Try.sizeOf36 rfl rfl) ?_
 replace hS := hS.f4
 refine WL.run hS rfl rfl rfl (ex_load_box Try.isAgg36 rfl rfl) ?_
 refine WL.mv rfl rfl ?_
 refine WL.mv rfl rfl ?_
 refine WL.mv rfl rfl ?_
 replace hS := hS.f12.f12.f12.f12.f12.f12.f12
 obtain ⟨mf, hV⟩ := hV
 refine WL.call rfl rfl rfl (enters0 (vs := [(pq b_5), i6 (ix nodes_39 r_78), i6 (ix nodes_39 r_81), i6 (ix nodes_39 r_84)]) Try.call29 ⟨rfl, rfl, rfl, rfl, trivial⟩) (S_Ite mf  h_9 h_14 h_19 h_24 h_29 h_34 hr_92 hr_98 hr_104 hS hV) ?_
 clear hV hS
 rintro _ w ⟨r_194, c_196, c_200, m_204, m_207, v_197, fp_198, v_201, fp_202, fp_205, fp_208, hV, rfl, hr_195, h_199, h_203, h_206, h_209, hS⟩
 refine ⟨_, rfl, ?_⟩
 refine WL.ma rfl rfl ?_
 refine WL.nx ?_
 refine WC.sub (m := [(14, u_108), (15, u_113), (16, u_118), (21, i6 r_194)]) ⟨rfl, rfl, rfl, rfl, trivial⟩ ?_
 replace hS := hS.f9.drop
 replace hS := hS.f9.drop
 refine WC.sr ?_
 refine WL.mv rfl rfl ?_
 refine WL.mv rfl rfl ?_
 refine WL.mv rfl rfl ?_
 refine WL.call rfl rfl rfl (enters0 (vs := [u_108, u_113, u_118]) Try.call30 ⟨rfl, rfl, rfl, trivial⟩) (S_rIte  hu_109 hu_114 hu_119 hS hV) ?_
 clear hV hS
 rintro _ w ⟨r_213, v_214, fp_215, hV, rfl, h_216, hS⟩
 refine ⟨_, rfl, ?_⟩
 refine WL.ma rfl rfl ?_
 refine WL.nx ?_
 refine WC.sr ?_
 refine WL.mv rfl rfl ?_
 refine WL.mv rfl rfl ?_
 refine WL.ma rfl rfl ?_
 refine WL.ma rfl rfl ?_
 refine WL.ma rfl rfl ?_
 refine WL.nx ?_
 refine WC.sub (m := [(4, i6 r_194), (5, v_214), (6, .bool true)]) ⟨rfl, rfl, rfl, trivial⟩ ?_
 refine WC.ret ?_
 refine WQ.out nofun ?_
 refine WQ.pass nofun ?_
 obtain ⟨H_219, le_220, h_221, hS⟩ : ∃ K, View.le H K ∧ IsSl K cBool v_214 r_213 ∧ St w0 K ([(b_5, oc #[v_197, v_201, v_18, v_23, v_28, v_33] 79)] ++ (fp_198 ++ (fp_202 ++ (fp_205 ++ (fp_25 ++ (fp_30 ++ (fp_208 ++ ([(b_2, oc #[(pq b_5), i6 n_37, v_40, v_45, v_50, v_55] 39)] ++ (fp_47 ++ (fp_42 ++ (fp_52 ++ (fp_57 ++ L)))))))))))) w := ⟨_, hS.put_le, h_216.share hS.put_le, hS.freeze⟩
 replace hS := hS.f12.f12.f11.f12.f11.f11.f11.f11.f11.f11.f11.f12
 exact leave3 rfl rfl rfl rfl ⟨r_194, r_213, true, c_196, c_200, m_204, m_207, v_214, v_197, fp_198, v_201, fp_202, fp_205, fp_208, H_219, hV, rfl, ((View.le.refl _).trans le_220), hr_195, h_221, (h_199.mono le_220), (h_203.mono le_220), (h_206.mono le_220), (h_209.mono le_220), hS⟩
 intro hc_733
 replace hV := hV.2 (of_decide_eq_false hc_733)
 refine WC.sr ?_
 refine WL.run hS rfl rfl rfl (ex_eql rfl rfl) ?_
 refine WL.ma rfl rfl ?_
 refine WL.nx ?_
 refine WC.cond rfl ?_ ?_
 intro hc_732
 replace hV := hV.1 (of_decide_eq_true hc_732)
 refine WC.sr ?_
 refine WL.mv rfl rfl ?_
 refine WL.run hS rfl rfl rfl (ex_nilCheck rfl) ?_
 refine WL.run hS rfl rfl rfl (ex_fieldAddr (o' := 0) Try.underlying39 rfl Try.sizeOf36 rfl rfl) ?_
 replace hS := hS.f4
 refine WL.run hS rfl rfl rfl (ex_load_box Try.isAgg36 rfl rfl) ?_
 refine WL.mv rfl rfl ?_
 replace hS := hS.f12.f12.f12.f12.f12.f12.f12
 refine WL.call rfl rfl rfl (enters0 (vs := [(pq b_5), i6 (ix nodes_39 r_78)]) Try.call31 ⟨rfl, rfl, trivial⟩) (S_Not  h_9 h_14 h_19 h_24 h_29 h_34 hr_92 hS hV) ?_
 clear hV hS
 rintro _ w ⟨r_223, c_225, c_229, m_233, m_236, v_226, fp_227, v_230, fp_231, fp_234, fp_237, hV, rfl, hr_224, h_228, h_232, h_235, h_238, hS⟩
 refine ⟨_, rfl, ?_⟩
 refine WL.ma rfl rfl ?_
 refine WL.nx ?_
 refine WC.sub (m := [(14, u_108), (17, u_123), (18, u_128), (22, i6 r_223)]) ⟨rfl, rfl, rfl, rfl, trivial⟩ ?_
 replace hS := hS.f9.drop
 replace hS := hS.f9.drop
 refine WC.sr ?_
 refine WL.mv rfl rfl ?_
 refine WL.mv rfl rfl ?_
 refine WL.mv rfl rfl ?_
 refine WL.call rfl rfl rfl (enters0 (vs := [u_108, u_123, u_128]) Try.call30 ⟨rfl, rfl, rfl, trivial⟩) (S_rIte  hu_109 hu_124 hu_129 hS hV) ?_
 clear hV hS
 rintro _ w ⟨r_242, v_243, fp_244, hV, rfl, h_245, hS⟩
 refine ⟨_, rfl, ?_⟩
 refine WL.ma rfl rfl ?_
 refine WL.nx ?_
 refine WC.sr ?_
 refine WL.mv rfl rfl ?_
 refine WL.mv rfl rfl ?_
 refine WL.ma rfl rfl ?_
 refine WL.ma rfl rfl ?_
 refine WL.ma rfl rfl ?_
 refine WL.nx ?_
 refine WC.sub (m := [(4, i6 r_223), (5, v_243), (6, .bool true)]) ⟨rfl, rfl, rfl, trivial⟩ ?_
 refine WC.ret ?_
 refine WQ.out nofun ?_
 refine WQ.pass nofun ?_
 obtain ⟨H_248, le_249, h_250, hS⟩ : ∃ K, View.le H K ∧ IsSl K cBool v_243 r_242 ∧ St w0 K ([(b_5, oc #[v_226, v_230, v_18, v_23, v_28, v_33] 79)] ++ (fp_227 ++ (fp_231 ++ (fp_234 ++ (fp_25 ++ (fp_30 ++ (fp_237 ++ ([(b_2, oc #[(pq b_5), i6 n_37, v_40, v_45, v_50, v_55] 39)] ++ (fp_47 ++ (fp_42 ++ (fp_52 ++ (fp_57 ++ L)))))))))))) w := ⟨_, hS.put_le, h_245.share hS.put_le, hS.freeze⟩
 replace hS := hS.f12.f12.f11.f12.f11.f11.f11.f11.f11.f11.f11.f12
 exact leave3 rfl rfl rfl rfl ⟨r_223, r_242, true, c_225, c_229, m_233, m_236, v_243, v_226, fp_227, v_230, fp_231, fp_234, fp_237, H_248, hV, rfl, ((View.le.refl _).trans le_249), hr_224, h_250, (h_228.mono le_249), (h_232.mono le_249), (h_235.mono le_249), (h_238.mono le_249), hS⟩
 intro hc_732
 replace hV := hV.2 (of_decide_eq_false hc_732)
 refine WC.sr ?_
 refine WL.run hS rfl rfl rfl (ex_eql rfl rfl) ?_
 refine WL.ma rfl rfl ?_
 refine WL.nx ?_
 refine WC.cond rfl ?_ ?_
 intro hc_731
 replace hV := hV.1 (of_decide_eq_true hc_731)
 refine WC.sr ?_
 refine WL.mv rfl rfl ?_
 refine WL.run hS rfl rfl rfl (ex_nilCheck rfl) ?_
 refine WL.run hS rfl rfl rfl (ex_fieldAddr (o' := 0) Try.underlying39 rfl Try.sizeOf36 rfl rfl) ?_
 replace hS := hS.f4
 refine WL.run hS rfl rfl rfl (ex_load_box Try.isAgg36 rfl rfl) ?_
 refine WL.mv rfl rfl ?_
 refine WL.mv rfl rfl ?_
 replace hS := hS.f12.f12.f12.f12.f12.f12.f12
 refine WL.call rfl rfl rfl (enters0 (vs := [(pq b_5), i6 (ix nodes_39 r_78), i6 (ix nodes_39 r_81)]) Try.call32 ⟨rfl, rfl, rfl, trivial⟩) (S_And  h_9 h_14 h_19 h_24 h_29 h_34 hr_92 hr_98 hS hV) ?_
 clear hV hS
 rintro _ w ⟨r_252, c_254, c_258, m_262, m_265, v_255, fp_256, v_259, fp_260, fp_263, fp_266, hV, rfl, hr_253, h_257, h_261, h_264, h_267, hS⟩
 refine ⟨_, rfl, ?_⟩
 refine WL.ma rfl rfl ?_
 refine WL.nx ?_
 refine WC.sub (m := [(14, u_108), (15, u_113), (17, u_123), (23, i6 r_252)]) ⟨rfl, rfl, rfl, rfl, trivial⟩ ?_
 replace hS := hS.f9.drop
 replace hS := hS.f9.drop
 refine WC.sr ?_
 refine WL.mv rfl rfl ?_
 refine WL.mv rfl rfl ?_
 refine WL.mv rfl rfl ?_
 refine WL.call rfl rfl rfl (enters0 (vs := [u_108, u_113, u_123]) Try.call30 ⟨rfl, rfl, rfl, trivial⟩) (S_rIte  hu_109 hu_114 hu_124 hS hV) ?_
 clear hV hS
 rintro _ w ⟨r_271, v_272, fp_273, hV, rfl, h_274, hS⟩
 refine ⟨_, rfl, ?_⟩
 refine WL.ma rfl rfl ?_
 refine WL.nx ?_
 refine WC.sr ?_
 refine WL.mv rfl rfl ?_
 refine WL.mv rfl rfl ?_
 refine WL.ma rfl rfl ?_
 refine WL.ma rfl rfl ?_
 refine WL.ma rfl rfl ?_
 refine WL.nx ?_
 refine WC.sub (m := [(4, i6 r_252), (5, v_272), (6, .bool true)]) ⟨rfl, rfl, rfl, trivial⟩ ?_
 refine WC.ret ?_
 refine WQ.out nofun ?_
 refine WQ.pass nofun ?_
 obtain ⟨H_277, le_278, h_279, hS⟩ : ∃ K, View.le H K ∧ IsSl K cBool v_272 r_271 ∧ St w0 K ([(b_5, oc #[v_255, v_259, v_18, v_23, v_28, v_33] 79)] ++ (fp_256 ++ (fp_260 ++ (fp_263 ++ (fp_25 ++ (fp_30 ++ (fp_266 ++ ([(b_2, oc #[(pq b_5), i6 n_37, v_40, v_45, v_50, v_55] 39)] ++ (fp_47 ++ (fp_42 ++ (fp_52 ++ (fp_57 ++ L)))))))))))) w := ⟨_, hS.put_le, h_274.share hS.put_le, hS.freeze⟩
 replace hS := hS.f12.f12.f11.f12.f11.f11.f11.f11.f11.f11.f11.f12
 exact leave3 rfl rfl rfl rfl ⟨r_252, r_271, true, c_254, c_258, m_262, m_265, v_272, v_255, fp_256, v_259, fp_260, fp_263, fp_266, H_277, hV, rfl, ((View.le.refl _).trans le_278), hr_253, h_279, (h_257.mono le_278), (h_261.mono le_278), (h_264.mono le_278), (h_267.mono le_278), hS⟩
 intro hc_731
 replace hV := hV.2 (of_decide_eq_false hc_731)
 refine WC.sr ?_
 refine WL.run hS rfl rfl rfl (ex_eql rfl rfl) ?_
 refine WL.ma rfl rfl ?_
 refine WL.nx ?_
 refine WC.cond rfl ?_ ?_
 intro hc_730
 replace hV := hV.1 (of_decide_eq_true hc_730)
 refine WC.sr ?_
 refine WL.mv rfl rfl ?_
 refine WL.run hS rfl rfl rfl (ex_nilCheck rfl) ?_
 refine WL.run hS rfl rfl rfl (ex_fieldAddr (o' := 0) Try.underlying39 rfl Try.sizeOf36 rfl rfl) ?_
 replace hS := hS.f4
 refine WL.run hS rfl rfl rfl (ex_load_box Try.isAgg36 rfl rfl) ?_
 refine WL.mv rfl rfl ?_
 refine WL.mv rfl rfl ?_
 replace hS := hS.f12.f12.f12.f12.f12.f12.f12
 refine WL.call rfl rfl rfl (enters0 (vs := [(pq b_5), i6 (ix nodes_39 r_78), i6 (ix nodes_39 r_81)]) Try.call33 ⟨rfl, rfl, rfl, trivial⟩) (S_Or  h_9 h_14 h_19 h_24 h_29 h_34 hr_92 hr_98 hS hV) ?_
 clear hV hS
 rintro _ w ⟨r_281, c_283, c_287, m_291, m_294, v_284, fp_285, v_288, fp_289, fp_292, fp_295, hV, rfl, hr_282, h_286, h_290, h_293, h_296, hS⟩
 refine ⟨_, rfl, ?_⟩
 refine WL.ma rfl rfl ?_
 refine WL.nx ?_
 refine WC.sub (m := [(14, u_108), (15, u_113), (18, u_128), (24, i6 r_281)]) ⟨rfl, rfl, rfl, rfl, trivial⟩ ?_
 replace hS := hS.f9.drop
 replace hS := hS.f9.drop
 refine WC.sr ?_
 refine WL.mv rfl rfl ?_
 refine WL.mv rfl rfl ?_
 refine WL.mv rfl rfl ?_
 refine WL.call rfl rfl rfl (enters0 (vs := [u_108, u_128, u_113]) Try.call30 ⟨rfl, rfl, rfl, trivial⟩) (S_rIte  hu_109 hu_129 hu_114 hS hV) ?_
 clear hV hS
 rintro _ w ⟨r_300, v_301, fp_302, hV, rfl, h_303, hS⟩
 refine ⟨_, rfl, ?_⟩
 refine WL.ma rfl rfl ?_
 refine WL.nx ?_
 refine WC.sr ?_
 refine WL.mv rfl rfl ?_
 refine WL.mv rfl rfl ?_
 refine WL.ma rfl rfl ?_
 refine WL.ma rfl rfl ?_
 refine WL.ma rfl rfl ?_
 refine WL.nx ?_
 refine WC.sub (m := [(4, i6 r_281), (5, v_301), (6, .bool true)]) ⟨rfl, rfl, rfl, trivial⟩ ?_
 refine WC.ret ?_
 refine WQ.out nofun ?_
 refine WQ.pass nofun ?_
 obtain ⟨H_306, le_307, h_308, hS⟩ : ∃ K, View.le H K ∧ IsSl K cBool v_301 r_300 ∧ St w0 K ([(b_5, oc #[v_284, v_288, v_18, v_23, v_28, v_33] 79)] ++ (fp_285 ++ (fp_289 ++ (fp_292 ++ (fp_25 ++ (fp_30 ++ (fp_295 ++ ([(b_2, oc #[(pq b_5), i6 n_37, v_40, v_45, v_50, v_55] 39)] ++ (fp_47 ++ (fp_42 ++ (fp_52 ++ (fp_57 ++ L)))))))))))) w := ⟨_, hS.put_le, h_303.share hS.put_le, hS.freeze⟩
 replace hS := hS.f12.f12.f11.f12.f11.f11.f11.f11.f11.f11.f11.f12
 exact leave3 rfl rfl rfl rfl ⟨r_281, r_300, true, c_283, c_287, m_291, m_294, v_301, v_284, fp_285, v_288, fp_289, fp_292, fp_295, H_306, hV, rfl, ((View.le.refl _).trans le_307), hr_282, h_308, (h_286.mono le_307), (h_290.mono le_307), (h_293.mono le_307), (h_296.mono le_307), hS⟩
 intro hc_730
 replace hV := hV.2 (of_decide_eq_false hc_730)
 refine WC.sr ?_
 refine WL.run hS rfl rfl rfl (ex_eql rfl rfl) ?_
 refine WL.ma rfl rfl ?_
 refine WL.nx ?_
 refine WC.sub (m := [(0, (pq b_2)), (3, (pq b_74)), (11, i6 (ix nodes_39 r_78)), (12, i6 (ix nodes_39 r_81)), (13, i6 (ix nodes_39 r_84)), (14, u_108), (15, u_113), (16, u_118), (17, u_123), (18, u_128), (19, v_135), (107, i6 Kind_60), (186, .bool (decide (Kind_60 = 6)))]) ⟨rfl, rfl, rfl, rfl, rfl, rfl, rfl, rfl, rfl, rfl, rfl, rfl, rfl, trivial⟩ ?_
 refine WC.cond rfl ?_ ?_
 intro hc_729
 replace hV := hV.1 (of_decide_eq_true hc_729)
 refine WC.sr ?_
 refine WL.mv rfl rfl ?_
 refine WL.run hS rfl rfl rfl (ex_nilCheck rfl) ?_
 refine WL.run hS rfl rfl rfl (ex_fieldAddr (o' := 0) Try.underlying39 rfl Try.sizeOf36 rfl rfl) ?_
 replace hS := hS.f4
 refine WL.run hS rfl rfl rfl (ex_load_box Try.isAgg36 rfl rfl) ?_
 refine WL.mv rfl rfl ?_
 refine WL.mv rfl rfl ?_
 replace hS := hS.f12.f12.f12.f12.f12.f12.f12
 refine WL.call rfl rfl rfl (enters0 (vs := [(pq b_5), i6 (ix nodes_39 r_78), i6 (ix nodes_39 r_81)]) Try.call34 ⟨rfl, rfl, rfl, trivial⟩) (S_Xor  h_9 h_14 h_19 h_24 h_29 h_34 hr_92 hr_98 hS hV) ?_
 clear hV hS
 rintro _ w ⟨r_310, c_312, c_316, m_320, m_323, v_313, fp_314, v_317, fp_318, fp_321, fp_324, hV, rfl, hr_311, h_315, h_319, h_322, h_325, hS⟩
 refine ⟨_, rfl, ?_⟩
 refine WL.ma rfl rfl ?_
 refine WL.nx ?_
 refine WC.sub (m := [(14, u_108), (15, u_113), (17, u_123), (18, u_128), (25, i6 r_310)]) ⟨rfl, rfl, rfl, rfl, rfl, trivial⟩ ?_
 replace hS := hS.f9.drop
 replace hS := hS.f9.drop
 refine WC.sr ?_
 refine WL.mv rfl rfl ?_
 refine WL.mv rfl rfl ?_
 refine WL.mv rfl rfl ?_
 refine WL.call rfl rfl rfl (enters0 (vs := [u_113, u_123, u_128]) Try.call30 ⟨rfl, rfl, rfl, trivial⟩) (S_rIte  hu_114 hu_124 hu_129 hS hV) ?_
 clear hV hS
 rintro _ w ⟨r_329, v_330, fp_331, hV, rfl, h_332, hS⟩
 refine ⟨_, rfl, ?_⟩
 refine WL.ma rfl rfl ?_
 refine WL.nx ?_
 refine WC.sr ?_
 refine WL.mv rfl rfl ?_
 refine WL.mv rfl rfl ?_
 refine WL.mv rfl rfl ?_
 have hL_335 := hS.freeze
 refine WL.call rfl rfl rfl (enters0 (vs := [u_108, v_330, u_113]) Try.call30 ⟨rfl, rfl, rfl, trivial⟩) (S_rIte  (hu_109.mono hS.put_le) (h_332.share hS.put_le) (hu_114.mono hS.put_le) hL_335 hV) ?_
 clear hV
 rintro _ w ⟨r_336, v_337, fp_338, hV, rfl, h_339, hL_341⟩
 refine ⟨_, rfl, ?_⟩
 have hB_343 := hS.back hL_341
 replace hS := hB_343
 clear hL_341 hL_335 hB_343
 replace h_339 := rep_own (K := H) h_339 (fun _ _ h => h)
 refine WL.ma rfl rfl ?_
 refine WL.nx ?_
 refine WC.sub (m := [(14, v_337), (25, i6 r_310)]) ⟨rfl, rfl, trivial⟩ ?_
 replace hS := hS.drop
 refine WC.sr ?_
 refine WL.mv rfl rfl ?_
 refine WL.mv rfl rfl ?_
 refine WL.ma rfl rfl ?_
 refine WL.ma rfl rfl ?_
 refine WL.ma rfl rfl ?_
 refine WL.nx ?_
 refine WC.ret ?_
 refine WQ.out nofun ?_
 refine WQ.pass nofun ?_
 obtain ⟨H_344, le_345, h_346, hS⟩ : ∃ K, View.le H K ∧ IsSl K cBool v_337 r_336 ∧ St w0 K ([(b_5, oc #[v_313, v_317, v_18, v_23, v_28, v_33] 79)] ++ (fp_314 ++ (fp_318 ++ (fp_321 ++ (fp_25 ++ (fp_30 ++ (fp_324 ++ ([(b_2, oc #[(pq b_5), i6 n_37, v_40, v_45, v_50, v_55] 39)] ++ (fp_47 ++ (fp_42 ++ (fp_52 ++ (fp_57 ++ L)))))))))))) w := ⟨_, hS.put_le, h_339.share hS.put_le, hS.freeze⟩
 replace hS := hS.f12.f12.f11.f12.f11.f11.f11.f11.f11.f11.f11.f12
 exact leave3 rfl rfl rfl rfl ⟨r_310, r_336, true, c_312, c_316, m_320, m_323, v_337, v_313, fp_314, v_317, fp_318, fp_321, fp_324, H_344, hV, rfl, ((View.le.refl _).trans le_345), hr_311, h_346, (h_315.mono le_345), (h_319.mono le_345), (h_322.mono le_345), (h_325.mono le_345), hS⟩
 intro hc_729
 replace hV := hV.2 (of_decide_eq_false hc_729)
 obtain ⟨J_351, hJ_352, hV⟩ := hV
 refine WC.meet (fun a w => ∃ (x_350 : Bool), J_351 x_350 ∧ St w0 H ([(b_2, oc #[(pq b_5), i6 n_37, v_40, v_45, v_50, v_55] 39)] ++ ([(b_5, oc #[v_8, v_13, v_18, v_23, v_28, v_33] 79)] ++ (fp_10 ++ (fp_15 ++ (fp_20 ++ (fp_25 ++ (fp_30 ++ (fp_35 ++ (fp_42 ++ (fp_47 ++ (fp_52 ++ (fp_57 ++ ([(b_74, oc #[i6 Kind_60, i6 A_62, i6 B_64, i6 C_66, v_69, v_72] 30)] ++ (fp_136 ++ L)))))))))))))) w ∧ Fr 278 [(0, (pq b_2)), (3, (pq b_74)), (11, i6 (ix nodes_39 r_78)), (13, i6 (ix nodes_39 r_84)), (14, u_108), (16, u_118), (19, v_135), (107, i6 Kind_60), (205, .bool x_350)] a) ?_ ?_
 rintro a w ⟨x_350, hI, hS, ha⟩
 refine in_frame ha ?_
 clear ha hV
 have hV := hJ_352 _ hI
 clear hI hJ_352
 refine WC.cond rfl ?_ ?_
 intro hc_728
 replace hV := hV.1 hc_728
 refine WC.sr ?_
 refine WL.mv rfl rfl ?_
 refine WL.ma rfl rfl ?_
 refine WL.nx ?_
 obtain ⟨J_420, hJ_421, hV⟩ := hV
 refine WC.meet (fun a w => ∃ (c_403 : N3) (c_408 : LI) (c_412 : M3) (c_415 : M3) (v_418 : Int) (v_404 : Value) (fp_405 : Seg) (v_409 : Value) (fp_410 : Seg) (fp_413 : Seg) (fp_416 : Seg), J_420 (c_403, c_408, c_412, c_415, v_418) ∧ OwnSl H (cPair (cInt .i64) (cPair (cInt .i64) (cInt .i64))) 81 v_404 c_403 fp_405 ∧ OwnSl H (cInt .i64) 32 v_409 c_408 fp_410 ∧ OwnMp H kTri (cInt .i64) v_18 c_412 fp_413 ∧ OwnMp H kTri (cInt .i64) v_33 c_415 fp_416 ∧ I64 v_418 ∧ St w0 H ([(b_2, oc #[(pq b_5), i6 n_37, v_40, v_45, v_50, v_55] 39)] ++ ([(b_5, oc #[v_404, v_409, v_18, v_23, v_28, v_33] 79)] ++ (fp_405 ++ (fp_410 ++ (fp_413 ++ (fp_25 ++ (fp_30 ++ (fp_416 ++ (fp_42 ++ (fp_47 ++ (fp_52 ++ (fp_57 ++ ([(b_74, oc #[i6 Kind_60, i6 A_62, i6 B_64, i6 C_66, v_69, v_72] 30)] ++ (fp_136 ++ L)))))))))))))) w ∧ Fr 278 [(0, (pq b_2)), (3, (pq b_74)), (14, u_108), (19, v_135), (27, i6 v_418)] a) ?_ ?_
 rintro a w ⟨c_403, c_408, c_412, c_415, v_418, v_404, fp_405, v_409, fp_410, fp_413, fp_416, hI, h_406, h_411, h_414, h_417, hr_419, hS, ha⟩
 refine in_frame ha ?_
 clear ha hV
 have hV := hJ_421 _ hI
 clear hI hJ_421
 refine WC.seq ?_
 refine WC.sr ?_
 refine WL.ma rfl rfl ?_
 refine WL.nx ?_
 refine WC.block ?_
 replace hS := hS.f14.f14.f14.f14.f14.f14.f14.f14.f14.f14.f14.f14.f14.f14
 obtain ⟨I_612, mu_613, hI_665, hV⟩ := hV
 refine WC.loop (σ := (List Bool) × Int) (fun s a w => ∃ (f_562 : List Bool) (i_565 : Int) (H_560 : View) (v_563 : Value), s = (f_562, i_565) ∧ I_612 (f_562, i_565) ∧ View.le H H_560 ∧ IsSl H_560 cBool v_563 f_562 ∧ I64 i_565 ∧ St w0 H_560 ([(b_2, oc #[(pq b_5), i6 n_37, v_40, v_45, v_50, v_55] 39)] ++ ([(b_5, oc #[v_404, v_409, v_18, v_23, v_28, v_33] 79)] ++ (fp_405 ++ (fp_410 ++ (fp_413 ++ (fp_25 ++ (fp_30 ++ (fp_416 ++ (fp_42 ++ (fp_47 ++ (fp_52 ++ (fp_57 ++ ([(b_74, oc #[i6 Kind_60, i6 A_62, i6 B_64, i6 C_66, v_69, v_72] 30)] ++ (fp_136 ++ L)))))))))))))) w ∧ Fr 278 [(0, (pq b_2)), (3, (pq b_74)), (14, v_563), (19, v_135), (27, i6 v_418), (28, i6 i_565)] a) mu_613 ((ix fs_44 r_78), 0) ?_ ?_
 exact fun a ha => ⟨(ix fs_44 r_78), 0, H, u_108, rfl, hI_665, (View.le.refl _), hu_109, (by unfold I64; omega), hS, ha.of_sub ⟨rfl, rfl, rfl, rfl, rfl, rfl, trivial⟩⟩
 clear hS hI_665
 rintro _ a w ⟨f_562, i_565, H_560, v_563, rfl, hI, le_561, h_564, hr_566, hS, ha⟩
 refine in_frame ha ?_
 clear ha
 replace hV := hV _ hI
 clear hI
 refine WC.seq ?_
 refine WC.sr ?_
 refine WL.mv rfl rfl ?_
 refine WL.run hS rfl rfl rfl (ex_fieldAddr (o' := 4) Try.underlying30 rfl Try.sizeOf27 rfl rfl) ?_
 replace hS := hS.f13
 refine WL.run hS rfl rfl rfl (ex_load_box Try.isAgg27 rfl rfl) ?_
 have hl_615 : Len Vars_68 := (h_70.mono le_561).bound
 replace hV := hV hl_615
 refine WL.run hS rfl rfl rfl (ex_len_sl Try.underlying27 rfl (h_70.mono le_561)) ?_
 refine WL.run hS rfl rfl rfl (ex_lss rfl rfl) ?_
 refine WL.nx ?_
 refine WC.cond rfl ?_ ?_
 intro hc_664
 replace hV := hV.1 (of_decide_eq_true hc_664)
 refine WC.skip ?_
 refine WQ.next ?_
 refine WC.seq ?_
 refine WC.block ?_
 refine WC.drawn (σ := [0, 1, 2, 3, 4, 5, 6, 7, 8, 9, 10, 11, 12, 13, 14]) (C := St w0 H_560 ([(b_74, oc #[i6 Kind_60, i6 A_62, i6 B_64, i6 C_66, v_69, v_72] 30)] ++ ([(b_2, oc #[(pq b_5), i6 n_37, v_40, v_45, v_50, v_55] 39)] ++ ([(b_5, oc #[v_404, v_409, v_18, v_23, v_28, v_33] 79)] ++ (fp_405 ++ (fp_410 ++ (fp_413 ++ (fp_25 ++ (fp_30 ++ (fp_416 ++ (fp_42 ++ (fp_47 ++ (fp_52 ++ (fp_57 ++ (fp_136 ++ L))))))))))))))) [[], [0], [0, 1], [0, 1, 2], [], [], [5], [], [5, 6, 7], [5, 6, 7, 8], [], [10], [10, 11], [0, 1, 2, 3, 4, 5, 6, 7, 8, 9, 10, 11, 12], [0, 1, 2, 3, 4, 5, 6, 7, 8, 9, 10, 11, 12, 13]] [13] Try.mixed (by kernel_rfl) (hS.drawn _) ?_
 clear hS w
 refine Wd.run rfl rfl rfl rfl (fun _ => ex_move rfl) fun q_618 hq_617 => ?_
 refine Wd.run rfl rfl rfl rfl (fun _ => ex_nilCheck rfl) fun q_620 hq_619 => ?_
 refine Wd.run rfl rfl rfl rfl (fun _ => ex_fieldAddr (o' := 1) Try.underlying39 rfl Try.sizeOf3 rfl rfl) fun q_622 hq_621 => ?_
 refine Wd.runb (off := 1) rfl rfl rfl rfl (fun _ _ _ h => ex_load_box Try.isAgg3 rfl h) rfl (fun _ h => St.f2 h) fun q_624 hq_623 => ?_
 refine Wd.run rfl rfl rfl rfl (fun _ => ex_move rfl) fun q_626 hq_625 => ?_
 refine Wd.run rfl rfl rfl rfl (fun _ => ex_fieldAddr (o' := 4) Try.underlying30 rfl Try.sizeOf27 rfl rfl) fun q_628 hq_627 => ?_
 refine Wd.runb (off := 4) rfl rfl rfl rfl (fun _ _ _ h => ex_load_box Try.isAgg27 rfl h) rfl (fun _ h => h) fun q_630 hq_629 => ?_
 refine Wd.run rfl rfl rfl rfl (fun _ => ex_move rfl) fun q_632 hq_631 => ?_
 obtain ⟨hin_635, hV⟩ := hV
 refine Wd.runx rfl rfl rfl rfl (exAll (ex_index Try.underlying27 Try.sizeOf3 rfl rfl (h_70.mono le_561) hin_635)) ?_
 intro p_636 hp_637
 intro q_634 hq_633
 refine Wd.runs (fp := ([] : Seg)) (L := [(b_74, oc #[i6 Kind_60, i6 A_62, i6 B_64, i6 C_66, v_69, v_72] 30)] ++ ([(b_2, oc #[(pq b_5), i6 n_37, v_40, v_45, v_50, v_55] 39)] ++ ([(b_5, oc #[v_404, v_409, v_18, v_23, v_28, v_33] 79)] ++ (fp_405 ++ (fp_410 ++ (fp_413 ++ (fp_25 ++ (fp_30 ++ (fp_416 ++ (fp_42 ++ (fp_47 ++ (fp_52 ++ (fp_57 ++ (fp_136 ++ L)))))))))))))) rfl rfl rfl rfl (ex_load_s Try.isAgg3 rfl rfl hp_637) (fun _ h => h) ?_
 intro u_640 hu_641
 obtain ⟨rfl, hr_642⟩ := cInt_rep hu_641
 replace hr_642 := has_I64 hr_642
 replace hV := hV hr_642
 intro q_639 hq_638
 refine Wd.run rfl rfl rfl rfl (fun _ => ex_fieldAddr (o' := 0) Try.underlying30 rfl Try.sizeOf3 rfl rfl) fun q_644 hq_643 => ?_
 refine Wd.runb (off := 0) rfl rfl rfl rfl (fun _ _ _ h => ex_load_box Try.isAgg3 rfl h) rfl (fun _ h => h) fun q_646 hq_645 => ?_
 refine Wd.run rfl rfl rfl rfl (fun _ => ex_eql rfl rfl) fun q_648 hq_647 => ?_
 refine Wd.turn rfl rfl rfl fun w hS => ?_
 refine WL.call rfl rfl rfl (enters0 (vs := [i6 n_37, v_563, i6 (ix Vars_68 i_565), .bool (decide (Kind_60 = 7))]) Try.call37 ⟨rfl, rfl, rfl, rfl, trivial⟩) (S_rOver  hr_38 h_564 hr_642 hS hV) ?_
 clear hV hS
 rintro _ w ⟨r_650, v_651, H_653, hV, rfl, le_654, h_652, hS⟩
 refine ⟨_, rfl, ?_⟩
 refine WL.nil (DQ.mk2 (C' := St w0 H_653 ([(b_74, oc #[i6 Kind_60, i6 A_62, i6 B_64, i6 C_66, v_69, v_72] 30)] ++ ([(b_2, oc #[(pq b_5), i6 n_37, v_40, v_45, v_50, v_55] 39)] ++ ([(b_5, oc #[v_404, v_409, v_18, v_23, v_28, v_33] 79)] ++ (fp_405 ++ (fp_410 ++ (fp_413 ++ (fp_25 ++ (fp_30 ++ (fp_416 ++ (fp_42 ++ (fp_47 ++ (fp_52 ++ (fp_57 ++ (fp_136 ++ L))))))))))))))) hS ⟨il, il, il, il, il, il, il, il, il, il, il, il, il, trivial⟩ ?_)
 clear hS w
 refine Wd.run rfl rfl rfl rfl (fun _ => ex_assign rfl) fun q_656 hq_655 => ?_
 refine Wd.nil fun w hS => ?_
 refine WQ.out nofun ?_
 refine WQ.next ?_
 refine WC.sub (m := [(0, (pq b_2)), (3, (pq b_74)), (14, v_651), (19, v_135), (27, i6 v_418), (28, i6 i_565)]) ⟨rfl, rfl, rfl, rfl, rfl, rfl, trivial⟩ ?_
 refine WC.region ?_
 refine WL.mv rfl rfl ?_
 obtain ⟨hi_658, hV⟩ := hV
 refine WL.run hS rfl rfl rfl (ex_add rfl rfl hi_658) ?_
 refine WL.ma rfl rfl ?_
 refine WL.nil ?_
 replace hS := hS.f14.f2.f14.f14.f14.f14.f14.f14.f14.f14.f14.f14.f14.f14
 exact WQ.there fun a ha => ⟨(r_650, (i_565 + 1)), ⟨r_650, (i_565 + 1), H_653, v_651, rfl, hV.1, (((View.le.refl _).trans le_561).trans le_654), h_652, hi_658, hS, ha.of_sub ⟨rfl, rfl, rfl, rfl, rfl, rfl, trivial⟩⟩, hV.2⟩
 intro hc_664
 replace hV := hV.2 (of_decide_eq_false hc_664)
 refine WC.exit ?_
 refine WQ.pass nofun ?_
 refine WQ.pass nofun ?_
 refine WQ.hit ?_
 refine WQ.next ?_
 refine WC.sr ?_
 refine WL.mv rfl rfl ?_
 refine WL.run hS rfl rfl rfl (ex_fieldAddr (o' := 4) Try.underlying30 rfl Try.sizeOf27 rfl rfl) ?_
 refine WL.run hS rfl rfl rfl (ex_load_box Try.isAgg27 rfl rfl) ?_
 replace hS := hS.f14
 have hL_659 := hS.freeze
 refine WL.call rfl rfl rfl (enters0 (vs := [v_135, v_69]) Try.call25 ⟨rfl, rfl, trivial⟩) (S_sameInts  ((h_137.mono le_561).share hS.put_le) ((h_70.mono le_561).mono hS.put_le) hL_659 hV) ?_
 clear hV
 rintro _ w ⟨r_660, hV, rfl, hL_661⟩
 refine ⟨_, rfl, ?_⟩
 have hB_663 := hS.back hL_661
 replace hS := hB_663
 clear hL_661 hL_659 hB_663
 refine WL.ma rfl rfl ?_
 refine WL.nx ?_
 refine WC.sub (m := [(14, v_563), (27, i6 v_418), (29, .bool r_660)]) ⟨rfl, rfl, rfl, trivial⟩ ?_
 replace hS := hS.f2.drop
 replace hS := hS.drop
 refine WC.sr ?_
 refine WL.mv rfl rfl ?_
 refine WL.mv rfl rfl ?_
 refine WL.mv rfl rfl ?_
 refine WL.ma rfl rfl ?_
 refine WL.ma rfl rfl ?_
 refine WL.ma rfl rfl ?_
 refine WL.nx ?_
 refine WC.ret ?_
 refine WQ.out nofun ?_
 refine WQ.pass nofun ?_
 replace hS := hS.f12.f12.f12.f12.f12.f12.f12.f12.f12.f12.f12.f12
 exact leave3 rfl rfl rfl rfl ⟨v_418, f_562, r_660, c_403, c_408, c_412, c_415, v_563, v_404, fp_405, v_409, fp_410, fp_413, fp_416, H_560, hV, rfl, ((View.le.refl _).trans le_561), hr_419, h_564, (h_406.mono le_561), (h_411.mono le_561), (h_414.mono le_561), (h_417.mono le_561), hS⟩
 clear hJ_421
 refine WC.sr ?_
 refine WL.run hS rfl rfl rfl (ex_fieldAddr (o' := 0) Try.underlying30 rfl Try.sizeOf3 rfl rfl) ?_
 replace hS := hS.f13
 refine WL.run hS rfl rfl rfl (ex_load_box Try.isAgg3 rfl rfl) ?_
 refine WL.run hS rfl rfl rfl (ex_eql rfl rfl) ?_
 refine WL.nx ?_
 refine WC.cond rfl ?_ ?_
 intro hc_467
 replace hV := hV.1 (of_decide_eq_true hc_467)
 refine WC.region ?_
 refine WL.mv rfl rfl ?_
 refine WL.run hS rfl rfl rfl (ex_nilCheck rfl) ?_
 refine WL.run hS rfl rfl rfl (ex_fieldAddr (o' := 0) Try.underlying39 rfl Try.sizeOf36 rfl rfl) ?_
 replace hS := hS.f2
 refine WL.run hS rfl rfl rfl (ex_load_box Try.isAgg36 rfl rfl) ?_
 refine WL.mv rfl rfl ?_
 refine WL.mv rfl rfl ?_
 replace hS := hS.f9.f9.f9.f9.f9.f9.f9.f14
 have hL_423 := hS.freeze
 refine WL.call rfl rfl rfl (enters0 (vs := [(pq b_5), i6 (ix nodes_39 r_78), v_135]) Try.call35 ⟨rfl, rfl, rfl, trivial⟩) (S_Exists  (h_9.mono hS.put_le) (h_14.mono hS.put_le) (h_19.mono hS.put_le) (h_24.mono hS.put_le) (h_29.mono hS.put_le) (h_34.mono hS.put_le) hr_92 (h_137.share hS.put_le) hL_423 hV) ?_
 clear hV
 rintro _ w ⟨r_424, c_426, c_430, m_434, m_437, v_427, fp_428, v_431, fp_432, fp_435, fp_438, hV, rfl, hr_425, h_429, h_433, h_436, h_439, hL_440⟩
 refine ⟨_, rfl, ?_⟩
 have hB_444 := hS.back hL_440
 replace hS := hB_444
 clear hL_440 hL_423 hB_444
 replace h_429 := rep_own (K := H) h_429 (fun _ _ h => h)
 replace h_433 := rep_own (K := H) h_433 (fun _ _ h => h)
 replace h_436 := rep_map (K := H) h_436 (fun _ _ h => h)
 replace h_439 := rep_map (K := H) h_439 (fun _ _ h => h)
 refine WL.ma rfl rfl ?_
 refine WL.nil ?_
 replace hS := hS.f10.f14.f14.f14.f14.f13.f13.f13.f13.f13.f13.f13.f14
 exact WQ.there fun a ha => ⟨c_426, c_430, m_434, m_437, r_424, v_427, fp_428, v_431, fp_432, fp_435, fp_438, hV, h_429, h_433, h_436, h_439, hr_425, hS, ha.of_sub ⟨rfl, rfl, rfl, rfl, rfl, trivial⟩⟩
 intro hc_467
 replace hV := hV.2 (of_decide_eq_false hc_467)
 refine WC.region ?_
 refine WL.mv rfl rfl ?_
 refine WL.run hS rfl rfl rfl (ex_nilCheck rfl) ?_
 refine WL.run hS rfl rfl rfl (ex_fieldAddr (o' := 0) Try.underlying39 rfl Try.sizeOf36 rfl rfl) ?_
 replace hS := hS.f2
 refine WL.run hS rfl rfl rfl (ex_load_box Try.isAgg36 rfl rfl) ?_
 refine WL.mv rfl rfl ?_
 refine WL.mv rfl rfl ?_
 replace hS := hS.f9.f9.f9.f9.f9.f9.f9.f14
 have hL_445 := hS.freeze
 refine WL.call rfl rfl rfl (enters0 (vs := [(pq b_5), i6 (ix nodes_39 r_78), v_135]) Try.call36 ⟨rfl, rfl, rfl, trivial⟩) (S_Forall  (h_9.mono hS.put_le) (h_14.mono hS.put_le) (h_19.mono hS.put_le) (h_24.mono hS.put_le) (h_29.mono hS.put_le) (h_34.mono hS.put_le) hr_92 (h_137.share hS.put_le) hL_445 hV) ?_
 clear hV
 rintro _ w ⟨r_446, c_448, c_452, m_456, m_459, v_449, fp_450, v_453, fp_454, fp_457, fp_460, hV, rfl, hr_447, h_451, h_455, h_458, h_461, hL_462⟩
 refine ⟨_, rfl, ?_⟩
 have hB_466 := hS.back hL_462
 replace hS := hB_466
 clear hL_462 hL_445 hB_466
 replace h_451 := rep_own (K := H) h_451 (fun _ _ h => h)
 replace h_455 := rep_own (K := H) h_455 (fun _ _ h => h)
 replace h_458 := rep_map (K := H) h_458 (fun _ _ h => h)
 replace h_461 := rep_map (K := H) h_461 (fun _ _ h => h)
 refine WL.ma rfl rfl ?_
 refine WL.nil ?_
 replace hS := hS.f10.f14.f14.f14.f14.f13.f13.f13.f13.f13.f13.f13.f14
 exact WQ.there fun a ha => ⟨c_448, c_452, m_456, m_459, r_446, v_449, fp_450, v_453, fp_454, fp_457, fp_460, hV, h_451, h_455, h_458, h_461, hr_447, hS, ha.of_sub ⟨rfl, rfl, rfl, rfl, rfl, trivial⟩⟩
 intro hc_728
 replace hV := hV.2 hc_728
 refine WC.sr ?_
 refine WL.run hS rfl rfl rfl (ex_eql rfl rfl) ?_
 refine WL.ma rfl rfl ?_
 refine WL.nx ?_
 replace hS := hS.f14.drop
 refine WC.cond rfl ?_ ?_
 intro hc_727
 replace hV := hV.1 (of_decide_eq_true hc_727)
 refine WC.seq ?_
 refine WC.drawn (σ := [0, 1, 2, 3, 4, 5, 6, 7, 8, 9]) (C := St w0 H ([(b_2, oc #[(pq b_5), i6 n_37, v_40, v_45, v_50, v_55] 39)] ++ ([(b_5, oc #[v_8, v_13, v_18, v_23, v_28, v_33] 79)] ++ (fp_10 ++ (fp_15 ++ (fp_20 ++ (fp_25 ++ (fp_30 ++ (fp_35 ++ (fp_42 ++ (fp_47 ++ (fp_52 ++ (fp_57 ++ ([(b_74, oc #[i6 Kind_60, i6 A_62, i6 B_64, i6 C_66, v_69, v_72] 30)] ++ L)))))))))))))) [[], [0], [0, 1], [0, 1, 2], [], [], [5], [], [0, 1, 2, 3, 4, 5, 6, 7], [0, 1, 2, 3, 4, 5, 6, 7, 8]] [8] Try.mixed (by kernel_rfl) (hS.drawn _) ?_
 clear hS w
 refine Wd.run rfl rfl rfl rfl (fun _ => ex_move rfl) fun q_668 hq_667 => ?_
 refine Wd.run rfl rfl rfl rfl (fun _ => ex_nilCheck rfl) fun q_670 hq_669 => ?_
 refine Wd.run rfl rfl rfl rfl (fun _ => ex_fieldAddr (o' := 0) Try.underlying39 rfl Try.sizeOf36 rfl rfl) fun q_672 hq_671 => ?_
 refine Wd.runb (off := 0) rfl rfl rfl rfl (fun _ _ _ h => ex_load_box Try.isAgg36 rfl h) rfl (fun _ h => h) fun q_674 hq_673 => ?_
 refine Wd.run rfl rfl rfl rfl (fun _ => ex_move rfl) fun q_676 hq_675 => ?_
 refine Wd.run rfl rfl rfl rfl (fun _ => ex_fieldAddr (o' := 2) Try.underlying30 rfl Try.sizeOf3 rfl rfl) fun q_678 hq_677 => ?_
 refine Wd.runb (off := 2) rfl rfl rfl rfl (fun _ _ _ h => ex_load_box Try.isAgg3 rfl h) rfl (fun _ h => St.f13 h) fun q_680 hq_679 => ?_
 refine Wd.run rfl rfl rfl rfl (fun _ => ex_move rfl) fun q_682 hq_681 => ?_
 refine Wd.turn rfl rfl rfl fun w hS => ?_
 replace hS := hS.f8.f8.f8.f8.f8.f8.f8
 refine WL.call rfl rfl rfl (enters0 (vs := [(pq b_5), i6 (ix nodes_39 r_78), i6 B_64, i6 (ix nodes_39 r_84)]) Try.call38 ⟨rfl, rfl, rfl, rfl, trivial⟩) (S_Let  h_9 h_14 h_19 h_24 h_29 h_34 hr_92 hr_65 hr_104 hS hV) ?_
 clear hV hS
 rintro _ w ⟨r_683, c_685, c_689, m_693, m_696, v_686, fp_687, v_690, fp_691, fp_694, fp_697, hV, rfl, hr_684, h_688, h_692, h_695, h_698, hS⟩
 refine ⟨_, rfl, ?_⟩
 refine WL.nil (DQ.mk2 (C' := St w0 H ([(b_5, oc #[v_686, v_690, v_18, v_23, v_28, v_33] 79)] ++ (fp_687 ++ (fp_691 ++ (fp_694 ++ (fp_25 ++ (fp_30 ++ (fp_697 ++ ([(b_2, oc #[(pq b_5), i6 n_37, v_40, v_45, v_50, v_55] 39)] ++ (fp_42 ++ (fp_47 ++ (fp_52 ++ (fp_57 ++ ([(b_74, oc #[i6 Kind_60, i6 A_62, i6 B_64, i6 C_66, v_69, v_72] 30)] ++ L)))))))))))))) hS ⟨il, il, il, il, il, il, il, il, trivial⟩ ?_)
 clear hS w
 refine Wd.run rfl rfl rfl rfl (fun _ => ex_assign rfl) fun q_703 hq_702 => ?_
 refine Wd.nil fun w hS => ?_
 refine WQ.next ?_
 refine WC.sub (m := [(0, (pq b_2)), (3, (pq b_74)), (14, u_108), (16, u_118), (30, i6 r_683)]) ⟨rfl, rfl, rfl, rfl, rfl, trivial⟩ ?_
 refine WC.seq ?_
 refine WC.drawn (σ := [0, 1, 2, 3, 4, 5, 6, 7, 8, 9]) (C := St w0 H ([(b_5, oc #[v_686, v_690, v_18, v_23, v_28, v_33] 79)] ++ (fp_687 ++ (fp_691 ++ (fp_694 ++ (fp_25 ++ (fp_30 ++ (fp_697 ++ ([(b_2, oc #[(pq b_5), i6 n_37, v_40, v_45, v_50, v_55] 39)] ++ (fp_42 ++ (fp_47 ++ (fp_52 ++ (fp_57 ++ ([(b_74, oc #[i6 Kind_60, i6 A_62, i6 B_64, i6 C_66, v_69, v_72] 30)] ++ L)))))))))))))) [[], [0], [0, 1], [0, 1, 2], [], [], [5], [], [0, 1, 2, 3, 4, 5, 6, 7], [0, 1, 2, 3, 4, 5, 6, 7, 8]] [8] Try.mixed (by kernel_rfl) (hS.drawn _) ?_
 clear hS w
 refine Wd.run rfl rfl rfl rfl (fun _ => ex_move rfl) fun q_705 hq_704 => ?_
 refine Wd.run rfl rfl rfl rfl (fun _ => ex_nilCheck rfl) fun q_707 hq_706 => ?_
 refine Wd.run rfl rfl rfl rfl (fun _ => ex_fieldAddr (o' := 1) Try.underlying39 rfl Try.sizeOf3 rfl rfl) fun q_709 hq_708 => ?_
 refine Wd.runb (off := 1) rfl rfl rfl rfl (fun _ _ _ h => ex_load_box Try.isAgg3 rfl h) rfl (fun _ h => St.f8 h) fun q_711 hq_710 => ?_
 refine Wd.run rfl rfl rfl rfl (fun _ => ex_move rfl) fun q_713 hq_712 => ?_
 refine Wd.run rfl rfl rfl rfl (fun _ => ex_fieldAddr (o' := 2) Try.underlying30 rfl Try.sizeOf3 rfl rfl) fun q_715 hq_714 => ?_
 refine Wd.runb (off := 2) rfl rfl rfl rfl (fun _ _ _ h => ex_load_box Try.isAgg3 rfl h) rfl (fun _ h => St.f13 h) fun q_717 hq_716 => ?_
 refine Wd.run rfl rfl rfl rfl (fun _ => ex_move rfl) fun q_719 hq_718 => ?_
 refine Wd.turn rfl rfl rfl fun w hS => ?_
 refine WL.call rfl rfl rfl (enters0 (vs := [i6 n_37, u_108, i6 B_64, u_118]) Try.call39 ⟨rfl, rfl, rfl, rfl, trivial⟩) (S_rLet  hr_38 hu_109 hr_65 hu_119 hS hV) ?_
 clear hV hS
 rintro _ w ⟨r_720, v_721, H_723, hV, rfl, le_724, h_722, hS⟩
 refine ⟨_, rfl, ?_⟩
 refine WL.nil (DQ.mk2 (C' := St w0 H_723 ([(b_5, oc #[v_686, v_690, v_18, v_23, v_28, v_33] 79)] ++ (fp_687 ++ (fp_691 ++ (fp_694 ++ (fp_25 ++ (fp_30 ++ (fp_697 ++ ([(b_2, oc #[(pq b_5), i6 n_37, v_40, v_45, v_50, v_55] 39)] ++ (fp_42 ++ (fp_47 ++ (fp_52 ++ (fp_57 ++ ([(b_74, oc #[i6 Kind_60, i6 A_62, i6 B_64, i6 C_66, v_69, v_72] 30)] ++ L)))))))))))))) hS ⟨il, il, il, il, il, il, il, il, trivial⟩ ?_)
 clear hS w
 refine Wd.run rfl rfl rfl rfl (fun _ => ex_assign rfl) fun q_726 hq_725 => ?_
 refine Wd.nil fun w hS => ?_
 refine WQ.next ?_
 refine WC.sub (m := [(14, v_721), (30, i6 r_683)]) ⟨rfl, rfl, trivial⟩ ?_
 replace hS := hS.f13.drop
 refine WC.sr ?_
 refine WL.mv rfl rfl ?_
 refine WL.mv rfl rfl ?_
 refine WL.ma rfl rfl ?_
 refine WL.ma rfl rfl ?_
 refine WL.ma rfl rfl ?_
 refine WL.nx ?_
 refine WC.ret ?_
 refine WQ.out nofun ?_
 refine WQ.pass nofun ?_
 replace hS := hS.f12.f12.f12.f12.f11.f11.f11.f11.f11.f11.f11.f12
 exact leave3 rfl rfl rfl rfl ⟨r_683, r_720, true, c_685, c_689, m_693, m_696, v_721, v_686, fp_687, v_690, fp_691, fp_694, fp_697, H_723, hV, rfl, ((View.le.refl _).trans le_724), hr_684, h_722, (h_688.mono le_724), (h_692.mono le_724), (h_695.mono le_724), (h_698.mono le_724), hS⟩
 intro hc_727
 replace hV := hV.2 (of_decide_eq_false hc_727)
 refine WC.skip ?_
 refine WQ.out nofun ?_
 refine WQ.next ?_
 replace hS := hS.f13.drop
 refine WC.sr ?_
 refine WL.mv rfl rfl ?_
 refine WL.mv rfl rfl ?_
 refine WL.ma rfl rfl ?_
 refine WL.ma rfl rfl ?_
 refine WL.ma rfl rfl ?_
 refine WL.nx ?_
 refine WC.sub (m := [(4, i6 (ix nodes_39 r_78)), (5, u_108), (6, .bool false)]) ⟨rfl, rfl, rfl, trivial⟩ ?_
 refine WC.ret ?_
 replace hS := hS.f12.f12.f12.f12.f12.f12.f12.f12.f12.f12.f12.f12
 exact leave3 rfl rfl rfl rfl ⟨(ix nodes_39 r_78), (ix fs_44 r_78), false, nodes_7, free_12, xby_17, memo_32, u_108, v_8, fp_10, v_13, fp_15, fp_20, fp_35, H, hV, rfl, (View.le.refl _), hr_92, hu_109, h_9, h_14, h_19, h_34, hS⟩
 clear hJ_352
 refine WC.sr ?_
 refine WL.run hS rfl rfl rfl (ex_eql rfl rfl) ?_
 refine WL.ma rfl rfl ?_
 refine WL.nx ?_
 refine WC.cond rfl ?_ ?_
 intro hc_355
 replace hV := hV.1 (of_decide_eq_true hc_355)
 refine WC.skip ?_
 replace hS := hS.f2.f2.f14.f14.f5.f7.f14.f14.f14.f14.f14.f14.f14.f14
 exact WQ.there fun a ha => ⟨decide (Kind_60 = 7), hV, hS, ha.of_sub ⟨rfl, rfl, rfl, rfl, rfl, rfl, rfl, rfl, rfl, trivial⟩⟩
 intro hc_355
 replace hV := hV.2 (of_decide_eq_false hc_355)
 refine WC.region ?_
 refine WL.run hS rfl rfl rfl (ex_eql rfl rfl) ?_
 refine WL.ma rfl rfl ?_
 refine WL.nil ?_
 replace hS := hS.f2.f2.f14.f14.f5.f7.f14.f14.f14.f14.f14.f14.f14.f14
 exact WQ.there fun a ha => ⟨decide (Kind_60 = 8), hV, hS, ha.of_sub ⟨rfl, rfl, rfl, rfl, rfl, rfl, rfl, rfl, rfl, trivial⟩⟩

theorem S_turned {w0 : World} {H : View} {L : Seg} {w : World} {b_2 : Nat} {b_5 : Nat} {v_8 : Value} {nodes_7 : N3} {fp_10 : Seg} {v_13 : Value} {free_12 : LI} {fp_15 : Seg} {v_18 : Value} {xby_17 : M3} {fp_20 : Seg} {v_23 : Value} {order_22 : LI} {fp_25 : Seg} {v_28 : Value} {level_27 : LI} {fp_30 : Seg} {v_33 : Value} {memo_32 : M3} {fp_35 : Seg} {n_37 : Int} {v_40 : Value} {nodes_39 : LI} {fp_42 : Seg} {v_45 : Value} {fs_44 : B2} {fp_47 : Seg} {v_50 : Value} {order_49 : LI} {fp_52 : Seg} {v_55 : Value} {given_54 : B2} {fp_57 : Seg} {Kind_60 : Int} {A_62 : Int} {B_64 : Int} {C_66 : Int} {v_69 : Value} {Vars_68 : LI} {v_72 : Value} {At_71 : List Bool} {Q : Bool → N3 → LI → M3 → LI → LI → M3 → LI → B2 → LI → B2 → Prop} (h_9 : OwnSl H (cPair (cInt .i64) (cPair (cInt .i64) (cInt .i64))) 81 v_8 nodes_7 fp_10) (h_14 : OwnSl H (cInt .i64) 32 v_13 free_12 fp_15) (h_19 : OwnMp H kTri (cInt .i64) v_18 xby_17 fp_20) (h_24 : OwnSl H (cInt .i64) 3 v_23 order_22 fp_25) (h_29 : OwnSl H (cInt .i64) 3 v_28 level_27 fp_30) (h_34 : OwnMp H kTri (cInt .i64) v_33 memo_32 fp_35) (hr_38 : I64 n_37) (h_41 : OwnSl H (cInt .i64) 32 v_40 nodes_39 fp_42) (h_46 : OwnSl H (cSl cBool) 28 v_45 fs_44 fp_47) (h_51 : OwnSl H (cInt .i64) 3 v_50 order_49 fp_52) (h_56 : OwnSl H (cSl cBool) 28 v_55 given_54 fp_57) (hr_61 : I64 Kind_60) (hr_63 : I64 A_62) (hr_65 : I64 B_64) (hr_67 : I64 C_66) (h_70 : IsSl H (cInt .i64) v_69 Vars_68) (h_73 : IsSl H cBool v_72 At_71) (hS : St w0 H ([(b_2, oc #[(pq b_5), i6 n_37, v_40, v_45, v_50, v_55] 39)] ++ ([(b_5, oc #[v_8, v_13, v_18, v_23, v_28, v_33] 79)] ++ (fp_10 ++ (fp_15 ++ (fp_20 ++ (fp_25 ++ (fp_30 ++ (fp_35 ++ (fp_42 ++ (fp_47 ++ (fp_52 ++ (fp_57 ++ L)))))))))))) w) (hV : V_turned nodes_7 free_12 xby_17 order_22 level_27 memo_32 n_37 nodes_39 fs_44 order_49 given_54 Kind_60 A_62 B_64 C_66 Vars_68 At_71 Q) :
 Calls Try.prog 9 #[(pq b_2), .agg #[i6 Kind_60, i6 A_62, i6 B_64, i6 C_66, v_69, v_72]] w fun e w' => ∃ (r1 : Bool) (r2 : N3) (r3 : LI) (r4 : M3) (r5 : LI) (r6 : LI) (r7 : M3) (r8 : LI) (r9 : B2) (r10 : LI) (r11 : B2) (v2 : Value) (fp2 : Seg) (v3 : Value) (fp3 : Seg) (fp4 : Seg) (v5 : Value) (fp5 : Seg) (v6 : Value) (fp6 : Seg) (fp7 : Seg) (v8 : Value) (fp8 : Seg) (v9 : Value) (fp9 : Seg) (v10 : Value) (fp10 : Seg) (v11 : Value) (fp11 : Seg) (H' : View), Q r1 r2 r3 r4 r5 r6 r7 r8 r9 r10 r11 ∧ e = .returned (.bool r1) ∧ View.le H H' ∧ OwnSl H' (cPair (cInt .i64) (cPair (cInt .i64) (cInt .i64))) 81 v2 r2 fp2 ∧ OwnSl H' (cInt .i64) 32 v3 r3 fp3 ∧ OwnMp H' kTri (cInt .i64) v_18 r4 fp4 ∧ OwnSl H' (cInt .i64) 3 v5 r5 fp5 ∧ OwnSl H' (cInt .i64) 3 v6 r6 fp6 ∧ OwnMp H' kTri (cInt .i64) v_33 r7 fp7 ∧ OwnSl H' (cInt .i64) 32 v8 r8 fp8 ∧ OwnSl H' (cSl cBool) 28 v9 r9 fp9 ∧ OwnSl H' (cInt .i64) 3 v10 r10 fp10 ∧ OwnSl H' (cSl cBool) 28 v11 r11 fp11 ∧ St w0 H' ([(b_2, oc #[(pq b_5), i6 n_37, v8, v9, v10, v11] 39)] ++ ([(b_5, oc #[v2, v3, v_18, v5, v6, v_33] 79)] ++ (fp2 ++ (fp3 ++ (fp4 ++ (fp5 ++ (fp6 ++ (fp7 ++ (fp8 ++ (fp9 ++ (fp10 ++ (fp11 ++ L)))))))))))) w' := by
 unfold V_turned at hV
 refine enter Try.func9 rfl Try.ntmps9 rfl (lk_args_cons (d := 0) (v := (pq b_2)) rfl (lk_args_cons (d := 1) (v := .agg #[i6 Kind_60, i6 A_62, i6 B_64, i6 C_66, v_69, v_72]) rfl (lk_args_nil _))) ?_
 refine WC.sr ?_
 refine WL.box (arr := #[i6 Kind_60, i6 A_62, i6 B_64, i6 C_66, v_69, v_72]) rfl rfl rfl hS ?_
 clear hS
 intro b_74 w hS
 refine WL.ma rfl rfl ?_
 refine WL.nx ?_
 refine WC.sr ?_
 refine WL.mv rfl rfl ?_
 refine WL.run hS rfl rfl rfl (ex_nilCheck rfl) ?_
 refine WL.run hS rfl rfl rfl (ex_fieldAddr (o' := 2) Try.underlying39 rfl Try.sizeOf35 rfl rfl) ?_
 replace hS := hS.f2
 refine WL.run hS rfl rfl rfl (ex_load_box Try.isAgg35 rfl rfl) ?_
 have hl_76 : Len nodes_39 := h_41.bound
 replace hV := hV hl_76
 refine WL.run hS rfl rfl rfl (ex_len_own Try.underlying35 rfl h_41) ?_
 refine WL.ma rfl rfl ?_
 refine WL.nx ?_
 refine WC.sr ?_
 refine WL.run hS rfl rfl rfl (ex_fieldAddr (o' := 1) Try.underlying30 rfl Try.sizeOf3 rfl rfl) ?_
 replace hS := hS.f2
 refine WL.run hS rfl rfl rfl (ex_load_box Try.isAgg3 rfl rfl) ?_
 refine WL.mv rfl rfl ?_
 refine WL.call rfl rfl rfl (enters0 (vs := [i6 A_62, i6 (nodes_39.length : Int)]) Try.call17 ⟨rfl, rfl, trivial⟩) (S_pick  hr_63 (Len.i64 hl_76) hS hV) ?_
 clear hV hS
 rintro _ w ⟨r_77, hV, rfl, hr_78, hS⟩
 refine ⟨_, rfl, ?_⟩
 refine WL.ma rfl rfl ?_
 refine WL.nx ?_
 refine WC.sub (m := [(0, (pq b_2)), (3, (pq b_74)), (5, i6 (nodes_39.length : Int)), (6, i6 r_77)]) ⟨rfl, rfl, rfl, rfl, trivial⟩ ?_
 refine WC.sr ?_
 refine WL.run hS rfl rfl rfl (ex_fieldAddr (o' := 2) Try.underlying30 rfl Try.sizeOf3 rfl rfl) ?_
 refine WL.run hS rfl rfl rfl (ex_load_box Try.isAgg3 rfl rfl) ?_
 refine WL.mv rfl rfl ?_
 refine WL.call rfl rfl rfl (enters0 (vs := [i6 B_64, i6 (nodes_39.length : Int)]) Try.call17 ⟨rfl, rfl, trivial⟩) (S_pick  hr_65 (Len.i64 hl_76) hS hV) ?_
 clear hV hS
 rintro _ w ⟨r_80, hV, rfl, hr_81, hS⟩
 refine ⟨_, rfl, ?_⟩
 refine WL.ma rfl rfl ?_
 refine WL.nx ?_
 obtain ⟨J_657, hJ_658, hV⟩ := hV
 refine WC.meet (fun a w => ∃ (c_612 : N3) (c_617 : LI) (c_621 : M3) (c_625 : LI) (c_630 : LI) (c_634 : M3) (c_638 : LI) (c_643 : B2) (c_648 : LI) (c_653 : B2) (H_609 : View) (v_613 : Value) (fp_614 : Seg) (v_618 : Value) (fp_619 : Seg) (fp_622 : Seg) (v_626 : Value) (fp_627 : Seg) (v_631 : Value) (fp_632 : Seg) (fp_635 : Seg) (v_639 : Value) (fp_640 : Seg) (v_644 : Value) (fp_645 : Seg) (v_649 : Value) (fp_650 : Seg) (v_654 : Value) (fp_655 : Seg), J_657 (c_612, c_617, c_621, c_625, c_630, c_634, c_638, c_643, c_648, c_653) ∧ View.le H H_609 ∧ OwnSl H_609 (cPair (cInt .i64) (cPair (cInt .i64) (cInt .i64))) 81 v_613 c_612 fp_614 ∧ OwnSl H_609 (cInt .i64) 32 v_618 c_617 fp_619 ∧ OwnMp H_609 kTri (cInt .i64) v_18 c_621 fp_622 ∧ OwnSl H_609 (cInt .i64) 3 v_626 c_625 fp_627 ∧ OwnSl H_609 (cInt .i64) 3 v_631 c_630 fp_632 ∧ OwnMp H_609 kTri (cInt .i64) v_33 c_634 fp_635 ∧ OwnSl H_609 (cInt .i64) 32 v_639 c_638 fp_640 ∧ OwnSl H_609 (cSl cBool) 28 v_644 c_643 fp_645 ∧ OwnSl H_609 (cInt .i64) 3 v_649 c_648 fp_650 ∧ OwnSl H_609 (cSl cBool) 28 v_654 c_653 fp_655 ∧ St w0 H_609 ([(b_2, oc #[(pq b_5), i6 n_37, v_639, v_644, v_649, v_654] 39)] ++ ([(b_5, oc #[v_613, v_618, v_18, v_626, v_631, v_33] 79)] ++ (fp_614 ++ (fp_619 ++ (fp_622 ++ (fp_627 ++ (fp_632 ++ (fp_635 ++ (fp_640 ++ (fp_645 ++ (fp_650 ++ (fp_655 ++ L)))))))))))) w ∧ Fr 265 [(0, (pq b_2))] a) ?_ ?_
 rintro a w ⟨c_612, c_617, c_621, c_625, c_630, c_634, c_638, c_643, c_648, c_653, H_609, v_613, fp_614, v_618, fp_619, fp_622, v_626, fp_627, v_631, fp_632, fp_635, v_639, fp_640, v_644, fp_645, v_649, fp_650, v_654, fp_655, hI, le_610, h_615, h_620, h_623, h_628, h_633, h_636, h_641, h_646, h_651, h_656, hS, ha⟩
 refine in_frame ha ?_
 clear ha hV
 have hV := hJ_658 _ hI
 clear hI hJ_658
 refine WC.sr ?_
 refine WL.mv rfl rfl ?_
 refine WL.run hS rfl rfl rfl (ex_nilCheck rfl) ?_
 refine WL.run hS rfl rfl rfl (ex_fieldAddr (o' := 0) Try.underlying39 rfl Try.sizeOf36 rfl rfl) ?_
 refine WL.run hS rfl rfl rfl (ex_load_box Try.isAgg36 rfl rfl) ?_
 replace hS := hS.f8.f8.f8.f8.f8.f8.f8
 refine WL.call rfl rfl rfl (enters0 (vs := [(pq b_5)]) Try.call24 ⟨rfl, trivial⟩) (S_Order  h_615 h_620 h_623 h_628 h_633 h_636 hS hV) ?_
 clear hV hS
 rintro _ w ⟨r_1185, v_1186, fp_1187, hV, rfl, h_1188, hS⟩
 refine ⟨_, rfl, ?_⟩
 refine WL.ma rfl rfl ?_
 refine WL.nx ?_
 refine WC.sr ?_
 refine WL.mv rfl rfl ?_
 refine WL.mv rfl rfl ?_
 refine WL.run hS rfl rfl rfl (ex_nilCheck rfl) ?_
 refine WL.run hS rfl rfl rfl (ex_fieldAddr (o' := 4) Try.underlying39 rfl Try.sizeOf27 rfl rfl) ?_
 replace hS := hS.f9
 refine WL.run hS rfl rfl rfl (ex_load_box Try.isAgg27 rfl rfl) ?_
 replace hS := hS.f12.f3
 have hL_1191 := hS.freeze
 have hL_1192 := hL_1191.freeze
 refine WL.call rfl rfl rfl (enters0 (vs := [v_1186, v_649]) Try.call25 ⟨rfl, rfl, trivial⟩) (S_sameInts  ((h_1188.share hS.put_le).mono hL_1191.put_le) ((h_651.mono hS.put_le).share hL_1191.put_le) hL_1192 hV) ?_
 clear hV
 rintro _ w ⟨r_1193, hV, rfl, hL_1194⟩
 refine ⟨_, rfl, ?_⟩
 have hB_1196 := hL_1191.back hL_1194
 have hB_1197 := hS.back hB_1196
 replace hS := hB_1197
 clear hL_1194 hL_1191 hL_1192 hB_1196 hB_1197
 refine WL.ma rfl rfl ?_
 refine WL.nx ?_
 refine WC.sub (m := [(21, v_1186), (22, .bool r_1193)]) ⟨rfl, rfl, trivial⟩ ?_
 refine WC.sr ?_
 refine WL.mv rfl rfl ?_
 refine WL.call rfl rfl rfl (enters0 (vs := [v_1186]) Try.call26 ⟨rfl, trivial⟩) (S_Spoil  h_1188 hS hV) ?_
 clear hV hS
 rintro _ w ⟨hV, rfl, hS⟩
 refine ⟨_, rfl, ?_⟩
 refine WL.nx ?_
 refine WC.sr ?_
 refine WL.mv rfl rfl ?_
 refine WL.ma rfl rfl ?_
 refine WL.nx ?_
 refine WC.ret ?_
 replace hS := hS.f12.f2.f12.f12.f12.f12.f12.f12.f12.f12.f12.f12
 exact leave1 rfl rfl ⟨r_1193, c_612, c_617, c_621, c_625, c_630, c_634, c_638, c_643, c_648, c_653, v_613, fp_614, v_618, fp_619, fp_622, v_626, fp_627, v_631, fp_632, fp_635, v_639, fp_640, v_644, fp_645, v_649, fp_650, v_654, fp_655, H_609, hV, rfl, ((View.le.refl _).trans le_610), h_615, h_620, h_623, h_628, h_633, h_636, h_641, h_646, h_651, h_656, hS⟩
 clear hJ_658
 refine WC.sr ?_
 refine WL.run hS rfl rfl rfl (ex_fieldAddr (o' := 0) Try.underlying30 rfl Try.sizeOf3 rfl rfl) ?_
 refine WL.run hS rfl rfl rfl (ex_load_box Try.isAgg3 rfl rfl) ?_
 refine WL.nx ?_
 refine WC.block ?_
 refine WC.sr ?_
 refine WL.run hS rfl rfl rfl (ex_eql rfl rfl) ?_
 refine WL.ma rfl rfl ?_
 refine WL.nx ?_
 refine WC.cond rfl ?_ ?_
 intro hc_1184
 replace hV := hV.1 (of_decide_eq_true hc_1184)
 refine WC.seq ?_
 refine WC.drawn (σ := [0, 1, 2, 3, 4, 5, 6, 7]) (C := St w0 H ([(b_74, oc #[i6 Kind_60, i6 A_62, i6 B_64, i6 C_66, v_69, v_72] 30)] ++ ([(b_2, oc #[(pq b_5), i6 n_37, v_40, v_45, v_50, v_55] 39)] ++ ([(b_5, oc #[v_8, v_13, v_18, v_23, v_28, v_33] 79)] ++ (fp_10 ++ (fp_15 ++ (fp_20 ++ (fp_25 ++ (fp_30 ++ (fp_35 ++ (fp_42 ++ (fp_47 ++ (fp_52 ++ (fp_57 ++ L)))))))))))))) [[], [0], [0, 1], [0, 1, 2], [], [4], [0, 1, 2, 3, 4, 5], [0, 1, 2, 3, 4, 5, 6]] [6] Try.mixed (by kernel_rfl) (hS.drawn _) ?_
 clear hS w
 refine Wd.run rfl rfl rfl rfl (fun _ => ex_move rfl) fun q_661 hq_660 => ?_
 refine Wd.run rfl rfl rfl rfl (fun _ => ex_nilCheck rfl) fun q_663 hq_662 => ?_
 refine Wd.run rfl rfl rfl rfl (fun _ => ex_fieldAddr (o' := 0) Try.underlying39 rfl Try.sizeOf36 rfl rfl) fun q_665 hq_664 => ?_
 refine Wd.runb (off := 0) rfl rfl rfl rfl (fun _ _ _ h => ex_load_box Try.isAgg36 rfl h) rfl (fun _ h => St.f2 h) fun q_667 hq_666 => ?_
 refine Wd.run rfl rfl rfl rfl (fun _ => ex_fieldAddr (o' := 1) Try.underlying30 rfl Try.sizeOf3 rfl rfl) fun q_669 hq_668 => ?_
 refine Wd.runb (off := 1) rfl rfl rfl rfl (fun _ _ _ h => ex_load_box Try.isAgg3 rfl h) rfl (fun _ h => h) fun q_671 hq_670 => ?_
 refine Wd.turn rfl rfl rfl fun w hS => ?_
 replace hS := hS.f9.f9.f9.f9.f9.f9.f9
 refine WL.call rfl rfl rfl (enters0 (vs := [(pq b_5), i6 A_62]) Try.call18 ⟨rfl, rfl, trivial⟩) (S_Swap  h_9 h_14 h_19 h_24 h_29 h_34 hr_63 hS hV) ?_
 clear hV hS
 rintro _ w ⟨r_672, c_673, c_677, m_681, c_684, c_688, m_692, v_674, fp_675, v_678, fp_679, fp_682, v_685, fp_686, v_689, fp_690, fp_693, hV, rfl, h_676, h_680, h_683, h_687, h_691, h_694, hS⟩
 refine ⟨_, rfl, ?_⟩
 refine WL.nil (DQ.mk2 (C' := St w0 H ([(b_5, oc #[v_674, v_678, v_18, v_685, v_689, v_33] 79)] ++ (fp_675 ++ (fp_679 ++ (fp_682 ++ (fp_686 ++ (fp_690 ++ (fp_693 ++ ([(b_74, oc #[i6 Kind_60, i6 A_62, i6 B_64, i6 C_66, v_69, v_72] 30)] ++ ([(b_2, oc #[(pq b_5), i6 n_37, v_40, v_45, v_50, v_55] 39)] ++ (fp_42 ++ (fp_47 ++ (fp_52 ++ (fp_57 ++ L)))))))))))))) hS ⟨il, il, il, il, il, il, trivial⟩ ?_)
 clear hS w
 refine Wd.run rfl rfl rfl rfl (fun _ => ex_assign rfl) fun q_701 hq_700 => ?_
 refine Wd.nil fun w hS => ?_
 refine WQ.next ?_
 refine WC.sub (m := [(0, (pq b_2)), (3, (pq b_74)), (8, .bool r_672)]) ⟨rfl, rfl, rfl, trivial⟩ ?_
 obtain ⟨J_708, hJ_709, hV⟩ := hV
 refine WC.meet (fun a w => ∃ (can_707 : Bool), J_708 can_707 ∧ St w0 H ([(b_2, oc #[(pq b_5), i6 n_37, v_40, v_45, v_50, v_55] 39)] ++ ([(b_5, oc #[v_674, v_678, v_18, v_685, v_689, v_33] 79)] ++ (fp_675 ++ (fp_679 ++ (fp_682 ++ (fp_686 ++ (fp_690 ++ (fp_693 ++ (fp_42 ++ (fp_47 ++ (fp_52 ++ (fp_57 ++ ([(b_74, oc #[i6 Kind_60, i6 A_62, i6 B_64, i6 C_66, v_69, v_72] 30)] ++ L))))))))))))) w ∧ Fr 265 [(0, (pq b_2)), (3, (pq b_74)), (8, .bool r_672), (9, .bool can_707)] a) ?_ ?_
 rintro a w ⟨can_707, hI, hS, ha⟩
 refine in_frame ha ?_
 clear ha hV
 have hV := hJ_709 _ hI
 clear hI hJ_709
 obtain ⟨J_797, hJ_798, hV⟩ := hV
 refine WC.meet (fun a w => ∃ (c_793 : LI) (v_794 : Value) (fp_795 : Seg), J_797 c_793 ∧ OwnSl H (cInt .i64) 3 v_794 c_793 fp_795 ∧ St w0 H ([(b_2, oc #[(pq b_5), i6 n_37, v_40, v_45, v_794, v_55] 39)] ++ ([(b_5, oc #[v_674, v_678, v_18, v_685, v_689, v_33] 79)] ++ (fp_675 ++ (fp_679 ++ (fp_682 ++ (fp_686 ++ (fp_690 ++ (fp_693 ++ (fp_42 ++ (fp_47 ++ (fp_795 ++ (fp_57 ++ L)))))))))))) w ∧ Fr 265 [(0, (pq b_2)), (8, .bool r_672), (9, .bool can_707)] a) ?_ ?_
 rintro a w ⟨c_793, v_794, fp_795, hI, h_796, hS, ha⟩
 refine in_frame ha ?_
 clear ha hV
 have hV := hJ_798 _ hI
 clear hI hJ_798
 refine WC.sr ?_
 refine WL.mv rfl rfl ?_
 refine WL.mv rfl rfl ?_
 refine WL.run hS rfl rfl rfl (ex_bneq Try.underlying4 rfl rfl) ?_
 refine WL.nx ?_
 refine WC.cond rfl ?_ ?_
 intro hc_876
 replace hV := hV.1 hc_876
 refine WC.sr ?_
 refine WL.ma rfl rfl ?_
 refine WL.nx ?_
 refine WC.ret ?_
 refine WQ.out nofun ?_
 refine WQ.pass nofun ?_
 replace hS := hS.f12.f12.f12.f12.f12.f12.f12.f12.f12.f12.f12.f12
 exact leave1 rfl rfl ⟨false, c_673, c_677, m_681, c_684, c_688, m_692, nodes_39, fs_44, c_793, given_54, v_674, fp_675, v_678, fp_679, fp_682, v_685, fp_686, v_689, fp_690, fp_693, v_40, fp_42, v_45, fp_47, v_794, fp_795, v_55, fp_57, H, hV, rfl, (View.le.refl _), h_676, h_680, h_683, h_687, h_691, h_694, h_41, h_46, h_796, h_56, hS⟩
 intro hc_876
 replace hV := hV.2 hc_876
 refine WC.skip ?_
 refine WQ.out nofun ?_
 replace hS := hS.f12.f12.f12.f12.f12.f12.f12.f12.f12.f12.f12.f12
 exact WQ.there fun a ha => ⟨c_673, c_677, m_681, c_684, c_688, m_692, nodes_39, fs_44, c_793, given_54, H, v_674, fp_675, v_678, fp_679, fp_682, v_685, fp_686, v_689, fp_690, fp_693, v_40, fp_42, v_45, fp_47, v_794, fp_795, v_55, fp_57, hV, (View.le.refl _), h_676, h_680, h_683, h_687, h_691, h_694, h_41, h_46, h_796, h_56, hS, ha.of_sub ⟨rfl, trivial⟩⟩
 clear hJ_798
 refine WC.sr ?_
 refine WL.mv rfl rfl ?_
 refine WL.nx ?_
 refine WC.cond rfl ?_ ?_
 intro hc_875
 replace hV := hV.1 hc_875
 refine WC.seq ?_
 refine WC.quiet (C := St w0 H ([(b_2, oc #[(pq b_5), i6 n_37, v_40, v_45, v_50, v_55] 39)] ++ ([(b_5, oc #[v_674, v_678, v_18, v_685, v_689, v_33] 79)] ++ (fp_675 ++ (fp_679 ++ (fp_682 ++ (fp_686 ++ (fp_690 ++ (fp_693 ++ (fp_42 ++ (fp_47 ++ (fp_52 ++ (fp_57 ++ ([(b_74, oc #[i6 Kind_60, i6 A_62, i6 B_64, i6 C_66, v_69, v_72] 30)] ++ L)))))))))))))) Try.mixed (by kernel_rfl) (hS.drawn _) ?_
 clear hS w
 refine Wq.run rfl rfl rfl (ex_move rfl) ?_
 refine Wq.run rfl rfl rfl (ex_nilCheck rfl) ?_
 refine Wq.run rfl rfl rfl (ex_fieldAddr (o' := 4) Try.underlying39 rfl Try.sizeOf27 rfl rfl) ?_
 refine Wq.run rfl rfl rfl (ex_load_box Try.isAgg27 rfl rfl) ?_
 refine Wq.run rfl rfl rfl (ex_fieldAddr (o' := 1) Try.underlying30 rfl Try.sizeOf3 rfl rfl) ?_
 refine Wq.run rfl rfl rfl ((ex_load_box Try.isAgg3 rfl rfl).of (fun _ h => St.f13 h)) ?_
 obtain ⟨hin_799, hV⟩ := hV
 refine Wq.runx rfl rfl rfl (ex_index_own Try.underlying27 Try.sizeOf3 rfl rfl h_51 hin_799) ?_
 intro p_800 hp_801
 refine Wq.runx rfl rfl rfl (exQ (ex_load_own_s Try.isAgg3 rfl rfl h_51 hp_801 hin_799) _ (fun _ h => St.f11 h)) ?_
 intro u_802 hu_803
 obtain ⟨rfl, hr_804⟩ := cInt_rep hu_803
 replace hr_804 := has_I64 hr_804
 replace hV := hV hr_804
 refine Wq.run rfl rfl rfl (ex_assign rfl) ?_
 refine Wq.nil fun w hS => ?_
 refine WQ.next ?_
 refine WC.seq ?_
 refine WC.drawn (σ := [0, 1, 2, 3, 4, 5, 6, 7, 8, 9, 10, 11, 12, 13, 14, 15, 16]) (C := St w0 H ([(b_2, oc #[(pq b_5), i6 n_37, v_40, v_45, v_50, v_55] 39)] ++ ([(b_5, oc #[v_674, v_678, v_18, v_685, v_689, v_33] 79)] ++ (fp_675 ++ (fp_679 ++ (fp_682 ++ (fp_686 ++ (fp_690 ++ (fp_693 ++ (fp_42 ++ (fp_47 ++ (fp_52 ++ (fp_57 ++ ([(b_74, oc #[i6 Kind_60, i6 A_62, i6 B_64, i6 C_66, v_69, v_72] 30)] ++ L)))))))))))))) [[], [0], [0, 1], [0, 1, 2], [], [4], [], [6], [6, 7], [6, 7, 8], [], [10], [10, 11], [6, 7, 8, 9, 10, 11, 12], [6, 7, 8, 9, 10, 11, 12, 13], [0, 1, 2, 3, 4, 5, 6, 7, 8, 9, 10, 11, 12, 13, 14], [0, 1, 2, 3, 4, 5, 6, 7, 8, 9, 10, 11, 12, 13, 14, 15]] [16] Try.mixed (by kernel_rfl) (hS.drawn _) ?_
 clear hS w
 refine Wd.run rfl rfl rfl rfl (fun _ => ex_move rfl) fun q_806 hq_805 => ?_
 refine Wd.run rfl rfl rfl rfl (fun _ => ex_nilCheck rfl) fun q_808 hq_807 => ?_
 refine Wd.run rfl rfl rfl rfl (fun _ => ex_fieldAddr (o' := 4) Try.underlying39 rfl Try.sizeOf27 rfl rfl) fun q_810 hq_809 => ?_
 refine Wd.runb (off := 4) rfl rfl rfl rfl (fun _ _ _ h => ex_load_box Try.isAgg27 rfl h) rfl (fun _ h => h) fun q_812 hq_811 => ?_
 refine Wd.run rfl rfl rfl rfl (fun _ => ex_fieldAddr (o' := 1) Try.underlying30 rfl Try.sizeOf3 rfl rfl) fun q_814 hq_813 => ?_
 refine Wd.runb (off := 1) rfl rfl rfl rfl (fun _ _ _ h => ex_load_box Try.isAgg3 rfl h) rfl (fun _ h => St.f13 h) fun q_816 hq_815 => ?_
 refine Wd.run rfl rfl rfl rfl (fun _ => ex_move rfl) fun q_818 hq_817 => ?_
 refine Wd.run rfl rfl rfl rfl (fun _ => ex_nilCheck rfl) fun q_820 hq_819 => ?_
 refine Wd.run rfl rfl rfl rfl (fun _ => ex_fieldAddr (o' := 4) Try.underlying39 rfl Try.sizeOf27 rfl rfl) fun q_822 hq_821 => ?_
 refine Wd.runb (off := 4) rfl rfl rfl rfl (fun _ _ _ h => ex_load_box Try.isAgg27 rfl h) rfl (fun _ h => h) fun q_824 hq_823 => ?_
 refine Wd.run rfl rfl rfl rfl (fun _ => ex_fieldAddr (o' := 1) Try.underlying30 rfl Try.sizeOf3 rfl rfl) fun q_826 hq_825 => ?_
 refine Wd.runb (off := 1) rfl rfl rfl rfl (fun _ _ _ h => ex_load_box Try.isAgg3 rfl h) rfl (fun _ h => St.f13 h) fun q_828 hq_827 => ?_
 obtain ⟨hi_832, hV⟩ := hV
 refine Wd.run rfl rfl rfl rfl (fun _ => ex_add rfl rfl hi_832) fun q_830 hq_829 => ?_
 obtain ⟨hin_835, hV⟩ := hV
 refine Wd.runx rfl rfl rfl rfl (exAll (ex_index_own Try.underlying27 Try.sizeOf3 rfl rfl h_51 hin_835)) ?_
 intro p_836 hp_837
 intro q_834 hq_833
 refine Wd.runs (fp := fp_52) rfl rfl rfl rfl (ex_load_own_s Try.isAgg3 rfl rfl h_51 hp_837 hin_835) (fun _ h => St.f11 h) ?_
 intro u_840 hu_841
 obtain ⟨rfl, hr_842⟩ := cInt_rep hu_841
 replace hr_842 := has_I64 hr_842
 replace hV := hV hr_842
 intro q_839 hq_838
 obtain ⟨hin_845, hV⟩ := hV
 refine Wd.runx rfl rfl rfl rfl (exAll (ex_index_own Try.underlying27 Try.sizeOf3 rfl rfl h_51 hin_845)) ?_
 intro p_846 hp_847
 intro q_844 hq_843
 refine Wd.turn rfl rfl rfl fun w hS => ?_
 replace hS := hS.f11
 refine WL.store_own Try.sizeOf3 rfl rfl rfl (cInt_mk (I64.has hr_842)) hS h_51 hp_847 hin_845 ?_
 clear hS
 intro w fp_849 h_848 hS
 refine WL.nil (DQ.mk2 (C' := St w0 H (fp_849 ++ ([(b_2, oc #[(pq b_5), i6 n_37, v_40, v_45, v_50, v_55] 39)] ++ ([(b_5, oc #[v_674, v_678, v_18, v_685, v_689, v_33] 79)] ++ (fp_675 ++ (fp_679 ++ (fp_682 ++ (fp_686 ++ (fp_690 ++ (fp_693 ++ (fp_42 ++ (fp_47 ++ (fp_57 ++ ([(b_74, oc #[i6 Kind_60, i6 A_62, i6 B_64, i6 C_66, v_69, v_72] 30)] ++ L)))))))))))))) hS ⟨il, il, il, il, il, il, il, il, il, il, il, il, il, il, il, il, trivial⟩ ?_)
 clear hS w
 refine Wd.nil fun w hS => ?_
 refine WQ.next ?_
 refine WC.sub (m := [(0, (pq b_2)), (3, (pq b_74)), (8, .bool r_672), (9, .bool can_707), (10, i6 (ix order_49 A_62))]) ⟨rfl, rfl, rfl, rfl, rfl, trivial⟩ ?_
 refine WC.drawn (σ := [0, 1, 2, 3, 4, 5, 6, 7, 8, 9]) (C := St w0 H (fp_849 ++ ([(b_2, oc #[(pq b_5), i6 n_37, v_40, v_45, v_50, v_55] 39)] ++ ([(b_5, oc #[v_674, v_678, v_18, v_685, v_689, v_33] 79)] ++ (fp_675 ++ (fp_679 ++ (fp_682 ++ (fp_686 ++ (fp_690 ++ (fp_693 ++ (fp_42 ++ (fp_47 ++ (fp_57 ++ ([(b_74, oc #[i6 Kind_60, i6 A_62, i6 B_64, i6 C_66, v_69, v_72] 30)] ++ L)))))))))))))) [[], [0], [0, 1], [0, 1, 2], [], [4], [4, 5], [], [0, 1, 2, 3, 4, 5, 6, 7], [0, 1, 2, 3, 4, 5, 6, 7, 8]] [9] Try.mixed (by kernel_rfl) (hS.drawn _) ?_
 clear hS w
 refine Wd.run rfl rfl rfl rfl (fun _ => ex_move rfl) fun q_851 hq_850 => ?_
 refine Wd.run rfl rfl rfl rfl (fun _ => ex_nilCheck rfl) fun q_853 hq_852 => ?_
 refine Wd.run rfl rfl rfl rfl (fun _ => ex_fieldAddr (o' := 4) Try.underlying39 rfl Try.sizeOf27 rfl rfl) fun q_855 hq_854 => ?_
 refine Wd.runb (off := 4) rfl rfl rfl rfl (fun _ _ _ h => ex_load_box Try.isAgg27 rfl h) rfl (fun _ h => St.f2 h) fun q_857 hq_856 => ?_
 refine Wd.run rfl rfl rfl rfl (fun _ => ex_fieldAddr (o' := 1) Try.underlying30 rfl Try.sizeOf3 rfl rfl) fun q_859 hq_858 => ?_
 refine Wd.runb (off := 1) rfl rfl rfl rfl (fun _ _ _ h => ex_load_box Try.isAgg3 rfl h) rfl (fun _ h => St.f13 h) fun q_861 hq_860 => ?_
 obtain ⟨hi_865, hV⟩ := hV
 refine Wd.run rfl rfl rfl rfl (fun _ => ex_add rfl rfl hi_865) fun q_863 hq_862 => ?_
 refine Wd.run rfl rfl rfl rfl (fun _ => ex_move rfl) fun q_867 hq_866 => ?_
 obtain ⟨hin_870, hV⟩ := hV
 refine Wd.runx rfl rfl rfl rfl (exAll (ex_index_own Try.underlying27 Try.sizeOf3 rfl rfl h_848 hin_870)) ?_
 intro p_871 hp_872
 intro q_869 hq_868
 refine Wd.turn rfl rfl rfl fun w hS => ?_
 refine WL.store_own Try.sizeOf3 rfl rfl rfl (cInt_mk (I64.has hr_804)) hS h_848 hp_872 hin_870 ?_
 clear hS
 intro w fp_874 h_873 hS
 refine WL.nil (DQ.mk2 (C' := St w0 H (fp_874 ++ ([(b_2, oc #[(pq b_5), i6 n_37, v_40, v_45, v_50, v_55] 39)] ++ ([(b_5, oc #[v_674, v_678, v_18, v_685, v_689, v_33] 79)] ++ (fp_675 ++ (fp_679 ++ (fp_682 ++ (fp_686 ++ (fp_690 ++ (fp_693 ++ (fp_42 ++ (fp_47 ++ (fp_57 ++ ([(b_74, oc #[i6 Kind_60, i6 A_62, i6 B_64, i6 C_66, v_69, v_72] 30)] ++ L)))))))))))))) hS ⟨il, il, il, il, il, il, il, il, il, trivial⟩ ?_)
 clear hS w
 refine Wd.nil fun w hS => ?_
 replace hS := hS.f13.drop
 replace hS := hS.f12.f2.f12.f12.f12.f12.f12.f12.f12.f12.f12.f12
 exact WQ.there fun a ha => ⟨((order_49.set A_62.toNat (ix order_49 (A_62 + 1))).set (A_62 + 1).toNat (ix order_49 A_62)), v_50, fp_874, hV, h_873, hS, ha.of_sub ⟨rfl, rfl, rfl, trivial⟩⟩
 intro hc_875
 replace hV := hV.2 hc_875
 refine WC.skip ?_
 replace hS := hS.f13.drop
 replace hS := hS.f12.f12.f12.f12.f12.f12.f12.f12.f12.f12.f12.f12
 exact WQ.there fun a ha => ⟨order_49, v_50, fp_52, hV, h_51, hS, ha.of_sub ⟨rfl, rfl, rfl, trivial⟩⟩
 clear hJ_709
 refine WC.quiet (C := St w0 H ([(b_5, oc #[v_674, v_678, v_18, v_685, v_689, v_33] 79)] ++ (fp_675 ++ (fp_679 ++ (fp_682 ++ (fp_686 ++ (fp_690 ++ (fp_693 ++ ([(b_74, oc #[i6 Kind_60, i6 A_62, i6 B_64, i6 C_66, v_69, v_72] 30)] ++ ([(b_2, oc #[(pq b_5), i6 n_37, v_40, v_45, v_50, v_55] 39)] ++ (fp_42 ++ (fp_47 ++ (fp_52 ++ (fp_57 ++ L)))))))))))))) Try.mixed (by kernel_rfl) (hS.drawn _) ?_
 clear hS w
 refine Wq.run rfl rfl rfl (ex_fieldAddr (o' := 1) Try.underlying30 rfl Try.sizeOf3 rfl rfl) ?_
 refine Wq.run rfl rfl rfl ((ex_load_box Try.isAgg3 rfl rfl).of (fun _ h => St.f8 h)) ?_
 refine Wq.run rfl rfl rfl (ex_geq rfl rfl) ?_
 refine Wq.run rfl rfl rfl (ex_move rfl) ?_
 rcases Bool.eq_false_or_eq_true (decide (0 ≤ A_62)) with hg_711 | hg_711
 replace hV := hV.1 (of_decide_eq_true hg_711)
 refine Wq.unguard rfl rfl hg_711 ?_
 refine Wq.run rfl rfl rfl (ex_fieldAddr (o' := 1) Try.underlying30 rfl Try.sizeOf3 rfl rfl) ?_
 refine Wq.unguard rfl rfl hg_711 ?_
 refine Wq.run rfl rfl rfl ((ex_load_box Try.isAgg3 rfl rfl).of (fun _ h => St.f8 h)) ?_
 refine Wq.unguard rfl rfl hg_711 ?_
 refine Wq.run rfl rfl rfl (ex_move rfl) ?_
 refine Wq.unguard rfl rfl hg_711 ?_
 refine Wq.run rfl rfl rfl (ex_nilCheck rfl) ?_
 refine Wq.unguard rfl rfl hg_711 ?_
 refine Wq.run rfl rfl rfl (ex_fieldAddr (o' := 1) Try.underlying39 rfl Try.sizeOf3 rfl rfl) ?_
 refine Wq.unguard rfl rfl hg_711 ?_
 refine Wq.run rfl rfl rfl ((ex_load_box Try.isAgg3 rfl rfl).of (fun _ h => St.f9 h)) ?_
 refine Wq.unguard rfl rfl hg_711 ?_
 obtain ⟨hi_713, hV⟩ := hV
 refine Wq.run rfl rfl rfl (ex_sub rfl rfl hi_713) ?_
 refine Wq.unguard rfl rfl hg_711 ?_
 refine Wq.run rfl rfl rfl (ex_lss rfl rfl) ?_
 refine Wq.run rfl rfl rfl (ex_pick_t rfl hg_711 rfl) ?_
 refine Wq.run rfl rfl rfl (ex_assign rfl) ?_
 refine Wq.nil fun w hS => ?_
 replace hS := hS.f8.f13.f13.f13.f13.f12.f12.f12.f12.f12.f12.f12.f13
 exact WQ.there fun a ha => ⟨decide (A_62 < (n_37 - 1)), hV, hS, ha.of_sub ⟨rfl, rfl, rfl, rfl, trivial⟩⟩
 replace hV := hV.2 (of_decide_eq_false hg_711)
 refine Wq.skip_g rfl rfl rfl hg_711 rfl rfl ?_
 refine Wq.skip_g rfl rfl rfl hg_711 rfl rfl ?_
 refine Wq.skip_g rfl rfl rfl hg_711 rfl rfl ?_
 refine Wq.skip_g rfl rfl rfl hg_711 rfl rfl ?_
 refine Wq.skip_g rfl rfl rfl hg_711 rfl rfl ?_
 refine Wq.skip_g rfl rfl rfl hg_711 rfl rfl ?_
 refine Wq.skip_g rfl rfl rfl hg_711 rfl rfl ?_
 refine Wq.skip_g rfl rfl rfl hg_711 rfl rfl ?_
 refine Wq.run rfl rfl rfl (ex_pick_f rfl hg_711 rfl) ?_
 refine Wq.run rfl rfl rfl (ex_assign rfl) ?_
 refine Wq.nil fun w hS => ?_
 replace hS := hS.f8.f13.f13.f13.f13.f12.f12.f12.f12.f12.f12.f12.f13
 exact WQ.there fun a ha => ⟨false, hV, hS, ha.of_sub ⟨rfl, rfl, rfl, rfl, trivial⟩⟩
 intro hc_1184
 replace hV := hV.2 (of_decide_eq_false hc_1184)
 refine WC.sr ?_
 refine WL.run hS rfl rfl rfl (ex_eql rfl rfl) ?_
 refine WL.ma rfl rfl ?_
 refine WL.nx ?_
 refine WC.sub (m := [(0, (pq b_2)), (6, i6 r_77), (7, i6 r_80), (37, i6 Kind_60), (97, .bool (decide (Kind_60 = 11)))]) ⟨rfl, rfl, rfl, rfl, rfl, trivial⟩ ?_
 replace hS := hS.drop
 refine WC.cond rfl ?_ ?_
 intro hc_1183
 replace hV := hV.1 (of_decide_eq_true hc_1183)
 refine WC.seq ?_
 refine WC.drawn (σ := [0, 1, 2, 3, 4, 5, 6, 7, 8, 9, 10, 11, 12, 13, 14, 15, 16, 17, 18, 19]) (C := St w0 H ([(b_2, oc #[(pq b_5), i6 n_37, v_40, v_45, v_50, v_55] 39)] ++ ([(b_5, oc #[v_8, v_13, v_18, v_23, v_28, v_33] 79)] ++ (fp_10 ++ (fp_15 ++ (fp_20 ++ (fp_25 ++ (fp_30 ++ (fp_35 ++ (fp_42 ++ (fp_47 ++ (fp_52 ++ (fp_57 ++ L))))))))))))) [[], [0], [0, 1], [0, 1, 2], [], [4], [4, 5], [4, 5, 6], [], [4, 5, 6, 7, 8], [4, 5, 6, 7, 8, 9], [], [11], [11, 12], [11, 12, 13], [], [11, 12, 13, 14, 15], [11, 12, 13, 14, 15, 16], [4, 5, 6, 7, 8, 9, 10, 11, 12, 13, 14, 15, 16, 17], [0, 1, 2, 3, 4, 5, 6, 7, 8, 9, 10, 11, 12, 13, 14, 15, 16, 17, 18]] [18, 19] Try.mixed (by kernel_rfl) (hS.drawn _) ?_
 clear hS w
 refine Wd.run rfl rfl rfl rfl (fun _ => ex_move rfl) fun q_879 hq_878 => ?_
 refine Wd.run rfl rfl rfl rfl (fun _ => ex_nilCheck rfl) fun q_881 hq_880 => ?_
 refine Wd.run rfl rfl rfl rfl (fun _ => ex_fieldAddr (o' := 0) Try.underlying39 rfl Try.sizeOf36 rfl rfl) fun q_883 hq_882 => ?_
 refine Wd.runb (off := 0) rfl rfl rfl rfl (fun _ _ _ h => ex_load_box Try.isAgg36 rfl h) rfl (fun _ h => h) fun q_885 hq_884 => ?_
 refine Wd.run rfl rfl rfl rfl (fun _ => ex_move rfl) fun q_887 hq_886 => ?_
 refine Wd.run rfl rfl rfl rfl (fun _ => ex_nilCheck rfl) fun q_889 hq_888 => ?_
 refine Wd.run rfl rfl rfl rfl (fun _ => ex_fieldAddr (o' := 2) Try.underlying39 rfl Try.sizeOf35 rfl rfl) fun q_891 hq_890 => ?_
 refine Wd.runb (off := 2) rfl rfl rfl rfl (fun _ _ _ h => ex_load_box Try.isAgg35 rfl h) rfl (fun _ h => h) fun q_893 hq_892 => ?_
 refine Wd.run rfl rfl rfl rfl (fun _ => ex_move rfl) fun q_895 hq_894 => ?_
 obtain ⟨hin_898, hV⟩ := hV
 refine Wd.runx rfl rfl rfl rfl (exAll (ex_index_own Try.underlying35 Try.sizeOf32 rfl rfl h_41 hin_898)) ?_
 intro p_899 hp_900
 intro q_897 hq_896
 refine Wd.runs (fp := fp_42) rfl rfl rfl rfl (ex_load_own_s Try.isAgg32 rfl rfl h_41 hp_900 hin_898) (fun _ h => St.f9 h) ?_
 intro u_903 hu_904
 obtain ⟨rfl, hr_905⟩ := cInt_rep hu_904
 replace hr_905 := has_I64 hr_905
 replace hV := hV hr_905
 intro q_902 hq_901
 refine Wd.run rfl rfl rfl rfl (fun _ => ex_move rfl) fun q_907 hq_906 => ?_
 refine Wd.run rfl rfl rfl rfl (fun _ => ex_nilCheck rfl) fun q_909 hq_908 => ?_
 refine Wd.run rfl rfl rfl rfl (fun _ => ex_fieldAddr (o' := 2) Try.underlying39 rfl Try.sizeOf35 rfl rfl) fun q_911 hq_910 => ?_
 refine Wd.runb (off := 2) rfl rfl rfl rfl (fun _ _ _ h => ex_load_box Try.isAgg35 rfl h) rfl (fun _ h => h) fun q_913 hq_912 => ?_
 refine Wd.run rfl rfl rfl rfl (fun _ => ex_move rfl) fun q_915 hq_914 => ?_
 obtain ⟨hin_918, hV⟩ := hV
 refine Wd.runx rfl rfl rfl rfl (exAll (ex_index_own Try.underlying35 Try.sizeOf32 rfl rfl h_41 hin_918)) ?_
 intro p_919 hp_920
 intro q_917 hq_916
 refine Wd.runs (fp := fp_42) rfl rfl rfl rfl (ex_load_own_s Try.isAgg32 rfl rfl h_41 hp_920 hin_918) (fun _ h => St.f9 h) ?_
 intro u_923 hu_924
 obtain ⟨rfl, hr_925⟩ := cInt_rep hu_924
 replace hr_925 := has_I64 hr_925
 replace hV := hV hr_925
 intro q_922 hq_921
 refine Wd.turn rfl rfl rfl fun w hS => ?_
 refine WL.buildn (c := (cInt .i64)) (xs := [(ix nodes_39 r_77), (ix nodes_39 r_80)]) (vs := [i6 (ix nodes_39 r_77), i6 (ix nodes_39 r_80)]) rfl Try.underlying35 Try.info32 rfl rfl ⟨rfl, rfl, trivial⟩ rfl ⟨_, _, rfl, (cInt_mk (I64.has hr_905)), ⟨_, _, rfl, (cInt_mk (I64.has hr_925)), rfl⟩⟩ hS rfl ?_
 clear hS
 intro v_927 w fp_928 h_929 hS
 refine WL.nil (DQ.mk2 (C' := St w0 H (fp_928 ++ ([(b_2, oc #[(pq b_5), i6 n_37, v_40, v_45, v_50, v_55] 39)] ++ ([(b_5, oc #[v_8, v_13, v_18, v_23, v_28, v_33] 79)] ++ (fp_10 ++ (fp_15 ++ (fp_20 ++ (fp_25 ++ (fp_30 ++ (fp_35 ++ (fp_42 ++ (fp_47 ++ (fp_52 ++ (fp_57 ++ L)))))))))))))) hS ⟨il, il, il, il, il, il, il, il, il, il, il, il, il, il, .inr (hq_884 H (fp_928 ++ ([(b_5, oc #[v_8, v_13, v_18, v_23, v_28, v_33] 79)] ++ (fp_10 ++ (fp_15 ++ (fp_20 ++ (fp_25 ++ (fp_30 ++ (fp_35 ++ (fp_42 ++ (fp_47 ++ (fp_52 ++ (fp_57 ++ L)))))))))))) #[(pq b_5), i6 n_37, v_40, v_45, v_50, v_55] _ rfl (fun _ h => St.f2 h)), .inr (hq_882 _), .inr (hq_880 _), .inr (hq_878 _), trivial⟩ ?_)
 clear hS w
 refine Wd.turn rfl rfl rfl fun w hS => ?_
 replace hS := hS.f9.f9.f9.f9.f9.f9.f9.f8
 have hL_930 := hS.freeze
 refine WL.call rfl rfl rfl (enters0 (vs := [(pq b_5), v_927]) Try.call19 ⟨rfl, rfl, trivial⟩) (S_Sift  (h_9.mono hS.put_le) (h_14.mono hS.put_le) (h_19.mono hS.put_le) (h_24.mono hS.put_le) (h_29.mono hS.put_le) (h_34.mono hS.put_le) (h_929.share hS.put_le) hL_930 hV) ?_
 clear hV
 rintro _ w ⟨c_931, c_935, m_939, c_942, c_946, m_950, v_932, fp_933, v_936, fp_937, fp_940, v_943, fp_944, v_947, fp_948, fp_951, hV, rfl, h_934, h_938, h_941, h_945, h_949, h_952, hL_953⟩
 refine ⟨_, rfl, ?_⟩
 have hB_959 := hS.back hL_953
 replace hS := hB_959
 clear hL_953 hL_930 hB_959
 replace h_934 := rep_own (K := H) h_934 (fun _ _ h => h)
 replace h_938 := rep_own (K := H) h_938 (fun _ _ h => h)
 replace h_941 := rep_map (K := H) h_941 (fun _ _ h => h)
 replace h_945 := rep_own (K := H) h_945 (fun _ _ h => h)
 replace h_949 := rep_own (K := H) h_949 (fun _ _ h => h)
 replace h_952 := rep_map (K := H) h_952 (fun _ _ h => h)
 refine WL.nil (DQ.mk2 (C' := St w0 H (fp_928 ++ ([(b_5, oc #[v_932, v_936, v_18, v_943, v_947, v_33] 79)] ++ (fp_933 ++ (fp_937 ++ (fp_940 ++ (fp_944 ++ (fp_948 ++ (fp_951 ++ ([(b_2, oc #[(pq b_5), i6 n_37, v_40, v_45, v_50, v_55] 39)] ++ (fp_42 ++ (fp_47 ++ (fp_52 ++ (fp_57 ++ L)))))))))))))) hS ⟨il, il, il, il, il, il, il, il, il, il, il, il, il, il, il, il, il, il, trivial⟩ ?_)
 clear hS w
 refine Wd.nil fun w hS => ?_
 refine WQ.next ?_
 refine WC.sub (m := [(0, (pq b_2)), (6, i6 r_77), (7, i6 r_80)]) ⟨rfl, rfl, rfl, trivial⟩ ?_
 replace hS := hS.drop
 refine WC.drawn (σ := [0, 1, 2, 3, 4, 5, 6, 7, 8, 9, 10, 11, 12, 13, 14, 16, 17, 18, 19, 15, 20, 21, 22, 23]) (C := St w0 H ([(b_5, oc #[v_932, v_936, v_18, v_943, v_947, v_33] 79)] ++ (fp_933 ++ (fp_937 ++ (fp_940 ++ (fp_944 ++ (fp_948 ++ (fp_951 ++ ([(b_2, oc #[(pq b_5), i6 n_37, v_40, v_45, v_50, v_55] 39)] ++ (fp_42 ++ (fp_47 ++ (fp_52 ++ (fp_57 ++ L))))))))))))) [[], [], [1], [1, 2], [1, 2, 3], [], [1, 2, 3, 4, 5], [1, 2, 3, 4, 5, 6], [], [8], [8, 9], [8, 9, 10], [], [8, 9, 10, 11, 12], [8, 9, 10, 11, 12, 13], [1, 2, 3, 4, 5, 6, 7, 8, 9, 10, 11, 12, 13, 14], [], [16], [16, 17], [16, 17, 18], [1, 2, 3, 4, 5, 6, 7, 8, 9, 10, 11, 12, 13, 14, 15, 16, 17, 18, 19], [0, 1, 2, 3, 4, 5, 6, 7, 8, 9, 10, 11, 12, 13, 14, 15, 16, 17, 18, 19, 20], [0, 1, 2, 3, 4, 5, 6, 7, 8, 9, 10, 11, 12, 13, 14, 15, 16, 17, 18, 19, 20, 21], [0, 1, 2, 3, 4, 5, 6, 7, 8, 9, 10, 11, 12, 13, 14, 15, 16, 17, 18, 19, 20, 21, 22]] [15, 20, 23] Try.mixed (by kernel_rfl) (hS.drawn _) ?_
 clear hS w
 refine Wd.run rfl rfl rfl rfl (fun _ => ex_move rfl) fun q_961 hq_960 => ?_
 refine Wd.run rfl rfl rfl rfl (fun _ => ex_move rfl) fun q_963 hq_962 => ?_
 refine Wd.run rfl rfl rfl rfl (fun _ => ex_nilCheck rfl) fun q_965 hq_964 => ?_
 refine Wd.run rfl rfl rfl rfl (fun _ => ex_fieldAddr (o' := 3) Try.underlying39 rfl Try.sizeOf37 rfl rfl) fun q_967 hq_966 => ?_
 refine Wd.runb (off := 3) rfl rfl rfl rfl (fun _ _ _ h => ex_load_box Try.isAgg37 rfl h) rfl (fun _ h => St.f8 h) fun q_969 hq_968 => ?_
 refine Wd.run rfl rfl rfl rfl (fun _ => ex_move rfl) fun q_971 hq_970 => ?_
 obtain ⟨hin_974, hV⟩ := hV
 refine Wd.runx rfl rfl rfl rfl (exAll (ex_index_own Try.underlying37 Try.sizeOf28 rfl rfl h_46 hin_974)) ?_
 intro p_975 hp_976
 intro q_973 hq_972
 refine Wd.runs (fp := fp_47) rfl rfl rfl rfl (ex_load_own_s Try.isAgg28 rfl rfl h_46 hp_976 hin_974) (fun _ h => St.f10 h) ?_
 intro u_979 hu_980
 replace hu_980 := cSl_rep hu_980
 intro q_978 hq_977
 refine Wd.run rfl rfl rfl rfl (fun _ => ex_move rfl) fun q_982 hq_981 => ?_
 refine Wd.run rfl rfl rfl rfl (fun _ => ex_nilCheck rfl) fun q_984 hq_983 => ?_
 refine Wd.run rfl rfl rfl rfl (fun _ => ex_fieldAddr (o' := 3) Try.underlying39 rfl Try.sizeOf37 rfl rfl) fun q_986 hq_985 => ?_
 refine Wd.runb (off := 3) rfl rfl rfl rfl (fun _ _ _ h => ex_load_box Try.isAgg37 rfl h) rfl (fun _ h => St.f8 h) fun q_988 hq_987 => ?_
 refine Wd.run rfl rfl rfl rfl (fun _ => ex_move rfl) fun q_990 hq_989 => ?_
 obtain ⟨hin_993, hV⟩ := hV
 refine Wd.runx rfl rfl rfl rfl (exAll (ex_index_own Try.underlying37 Try.sizeOf28 rfl rfl h_46 hin_993)) ?_
 intro p_994 hp_995
 intro q_992 hq_991
 refine Wd.runs (fp := fp_47) rfl rfl rfl rfl (ex_load_own_s Try.isAgg28 rfl rfl h_46 hp_995 hin_993) (fun _ h => St.f10 h) ?_
 intro u_998 hu_999
 replace hu_999 := cSl_rep hu_999
 intro q_997 hq_996
 refine Wd.run rfl rfl rfl rfl (fun _ => ex_move rfl) fun q_1001 hq_1000 => ?_
 refine Wd.run rfl rfl rfl rfl (fun _ => ex_nilCheck rfl) fun q_1003 hq_1002 => ?_
 refine Wd.run rfl rfl rfl rfl (fun _ => ex_fieldAddr (o' := 4) Try.underlying39 rfl Try.sizeOf27 rfl rfl) fun q_1005 hq_1004 => ?_
 refine Wd.runb (off := 4) rfl rfl rfl rfl (fun _ _ _ h => ex_load_box Try.isAgg27 rfl h) rfl (fun _ h => St.f8 h) fun q_1007 hq_1006 => ?_
 refine Wd.turn rfl rfl rfl fun w hS => ?_
 refine WL.buildn (c := (cSl cBool)) (xs := [(ix fs_44 r_77), (ix fs_44 r_80)]) (vs := [u_979, u_998]) rfl Try.underlying37 Try.info28 rfl rfl ⟨rfl, rfl, trivial⟩ rfl ⟨_, _, rfl, (cSl_mk hu_980), ⟨_, _, rfl, (cSl_mk hu_999), rfl⟩⟩ hS rfl ?_
 clear hS
 intro v_1009 w fp_1010 h_1011 hS
 refine WL.nil (DQ.mk2 (C' := St w0 H (fp_1010 ++ ([(b_5, oc #[v_932, v_936, v_18, v_943, v_947, v_33] 79)] ++ (fp_933 ++ (fp_937 ++ (fp_940 ++ (fp_944 ++ (fp_948 ++ (fp_951 ++ ([(b_2, oc #[(pq b_5), i6 n_37, v_40, v_45, v_50, v_55] 39)] ++ (fp_42 ++ (fp_47 ++ (fp_52 ++ (fp_57 ++ L)))))))))))))) hS ⟨.inr (hq_1006 H (fp_1010 ++ ([(b_5, oc #[v_932, v_936, v_18, v_943, v_947, v_33] 79)] ++ (fp_933 ++ (fp_937 ++ (fp_940 ++ (fp_944 ++ (fp_948 ++ (fp_951 ++ (fp_42 ++ (fp_47 ++ (fp_52 ++ (fp_57 ++ L)))))))))))) #[(pq b_5), i6 n_37, v_40, v_45, v_50, v_55] _ rfl (fun _ h => St.f9 h)), .inr (hq_1004 _), .inr (hq_1002 _), .inr (hq_1000 _), il, il, il, il, il, il, il, il, il, il, il, il, il, il, .inr (hq_960 _), trivial⟩ ?_)
 clear hS w
 refine Wd.turn rfl rfl rfl fun w hS => ?_
 replace hS := hS.f12.f2
 have hL_1012 := hS.freeze
 refine WL.call rfl rfl rfl (enters0 (vs := [v_1009, v_50]) Try.call20 ⟨rfl, rfl, trivial⟩) (S_rSift  (h_1011.share hS.put_le) (h_51.mono hS.put_le) hL_1012 hV) ?_
 clear hV
 rintro _ w ⟨r_1013, v_1014, fp_1015, hV, rfl, h_1016, hL_1018⟩
 refine ⟨_, rfl, ?_⟩
 have hB_1020 := hS.back hL_1018
 replace hS := hB_1020
 clear hL_1018 hL_1012 hB_1020
 replace h_1016 := rep_own (K := H) h_1016 (fun _ _ h => h)
 refine WL.nil (DQ.mk2 (C' := St w0 H (fp_1010 ++ (fp_1015 ++ ([(b_5, oc #[v_932, v_936, v_18, v_943, v_947, v_33] 79)] ++ (fp_933 ++ (fp_937 ++ (fp_940 ++ (fp_944 ++ (fp_948 ++ (fp_951 ++ ([(b_2, oc #[(pq b_5), i6 n_37, v_40, v_45, v_50, v_55] 39)] ++ (fp_42 ++ (fp_47 ++ (fp_57 ++ L)))))))))))))) hS ⟨il, il, il, il, il, il, il, il, il, il, il, il, il, il, il, il, il, il, .inr (hq_960 _), trivial⟩ ?_)
 clear hS w
 refine Wd.run rfl rfl rfl rfl (fun _ => ex_nilCheck rfl) fun q_1022 hq_1021 => ?_
 refine Wd.run rfl rfl rfl rfl (fun _ => ex_fieldAddr (o' := 4) Try.underlying39 rfl Try.sizeOf27 rfl rfl) fun q_1024 hq_1023 => ?_
 refine Wd.turn rfl rfl rfl fun w hS => ?_
 replace hS := hS.f10
 refine WL.store_box (pre := [(pq b_5), i6 n_37, v_40, v_45]) (old := [v_50]) (rst := [v_55]) (cs := [v_1014]) (arr' := #[(pq b_5), i6 n_37, v_40, v_45, v_1014, v_55]) Try.sizeOf27 rfl rfl (congrArg Array.toList (cells_one (OwnSl.one h_1016))) ⟨(OwnSl.one h_1016), trivial⟩ rfl rfl rfl rfl hS ?_
 clear hS
 intro w hS
 refine WL.nil (DQ.mk2 (C' := St w0 H ([(b_2, oc #[(pq b_5), i6 n_37, v_40, v_45, v_1014, v_55] 39)] ++ (fp_1010 ++ (fp_1015 ++ ([(b_5, oc #[v_932, v_936, v_18, v_943, v_947, v_33] 79)] ++ (fp_933 ++ (fp_937 ++ (fp_940 ++ (fp_944 ++ (fp_948 ++ (fp_951 ++ (fp_42 ++ (fp_47 ++ (fp_57 ++ L)))))))))))))) hS ⟨il, il, il, il, il, il, il, il, il, il, il, il, il, il, il, il, il, il, il, il, il, trivial⟩ ?_)
 clear hS w
 refine Wd.nil fun w hS => ?_
 refine WQ.out nofun ?_
 replace hS := hS.f2.drop
 replace hS := hS.f12.f3.f12.f12.f12.f12.f12.f12.f12.f12.f12.f12
 exact WQ.there fun a ha => ⟨c_931, c_935, m_939, c_942, c_946, m_950, nodes_39, fs_44, r_1013, given_54, H, v_932, fp_933, v_936, fp_937, fp_940, v_943, fp_944, v_947, fp_948, fp_951, v_40, fp_42, v_45, fp_47, v_1014, fp_1015, v_55, fp_57, hV, (View.le.refl _), h_934, h_938, h_941, h_945, h_949, h_952, h_41, h_46, h_1016, h_56, hS, ha.of_sub ⟨rfl, trivial⟩⟩
 intro hc_1183
 replace hV := hV.2 (of_decide_eq_false hc_1183)
 refine WC.sr ?_
 refine WL.run hS rfl rfl rfl (ex_eql rfl rfl) ?_
 refine WL.ma rfl rfl ?_
 refine WL.nx ?_
 refine WC.cond rfl ?_ ?_
 intro hc_1182
 replace hV := hV.1 (of_decide_eq_true hc_1182)
 refine WC.seq ?_
 refine WC.drawn (σ := [0, 1, 2, 3, 4, 5, 6, 7, 8, 9, 10, 11, 12, 13, 14, 15, 16, 17, 18, 19]) (C := St w0 H ([(b_2, oc #[(pq b_5), i6 n_37, v_40, v_45, v_50, v_55] 39)] ++ ([(b_5, oc #[v_8, v_13, v_18, v_23, v_28, v_33] 79)] ++ (fp_10 ++ (fp_15 ++ (fp_20 ++ (fp_25 ++ (fp_30 ++ (fp_35 ++ (fp_42 ++ (fp_47 ++ (fp_52 ++ (fp_57 ++ L))))))))))))) [[], [0], [0, 1], [0, 1, 2], [], [4], [4, 5], [4, 5, 6], [], [4, 5, 6, 7, 8], [4, 5, 6, 7, 8, 9], [], [11], [11, 12], [11, 12, 13], [], [11, 12, 13, 14, 15], [11, 12, 13, 14, 15, 16], [4, 5, 6, 7, 8, 9, 10, 11, 12, 13, 14, 15, 16, 17], [0, 1, 2, 3, 4, 5, 6, 7, 8, 9, 10, 11, 12, 13, 14, 15, 16, 17, 18]] [18, 19] Try.mixed (by kernel_rfl) (hS.drawn _) ?_
 clear hS w
 refine Wd.run rfl rfl rfl rfl (fun _ => ex_move rfl) fun q_1027 hq_1026 => ?_
 refine Wd.run rfl rfl rfl rfl (fun _ => ex_nilCheck rfl) fun q_1029 hq_1028 => ?_
 refine Wd.run rfl rfl rfl rfl (fun _ => ex_fieldAddr (o' := 0) Try.underlying39 rfl Try.sizeOf36 rfl rfl) fun q_1031 hq_1030 => ?_
 refine Wd.runb (off := 0) rfl rfl rfl rfl (fun _ _ _ h => ex_load_box Try.isAgg36 rfl h) rfl (fun _ h => h) fun q_1033 hq_1032 => ?_
 refine Wd.run rfl rfl rfl rfl (fun _ => ex_move rfl) fun q_1035 hq_1034 => ?_
 refine Wd.run rfl rfl rfl rfl (fun _ => ex_nilCheck rfl) fun q_1037 hq_1036 => ?_
 refine Wd.run rfl rfl rfl rfl (fun _ => ex_fieldAddr (o' := 2) Try.underlying39 rfl Try.sizeOf35 rfl rfl) fun q_1039 hq_1038 => ?_
 refine Wd.runb (off := 2) rfl rfl rfl rfl (fun _ _ _ h => ex_load_box Try.isAgg35 rfl h) rfl (fun _ h => h) fun q_1041 hq_1040 => ?_
 refine Wd.run rfl rfl rfl rfl (fun _ => ex_move rfl) fun q_1043 hq_1042 => ?_
 obtain ⟨hin_1046, hV⟩ := hV
 refine Wd.runx rfl rfl rfl rfl (exAll (ex_index_own Try.underlying35 Try.sizeOf32 rfl rfl h_41 hin_1046)) ?_
 intro p_1047 hp_1048
 intro q_1045 hq_1044
 refine Wd.runs (fp := fp_42) rfl rfl rfl rfl (ex_load_own_s Try.isAgg32 rfl rfl h_41 hp_1048 hin_1046) (fun _ h => St.f9 h) ?_
 intro u_1051 hu_1052
 obtain ⟨rfl, hr_1053⟩ := cInt_rep hu_1052
 replace hr_1053 := has_I64 hr_1053
 replace hV := hV hr_1053
 intro q_1050 hq_1049
 refine Wd.run rfl rfl rfl rfl (fun _ => ex_move rfl) fun q_1055 hq_1054 => ?_
 refine Wd.run rfl rfl rfl rfl (fun _ => ex_nilCheck rfl) fun q_1057 hq_1056 => ?_
 refine Wd.run rfl rfl rfl rfl (fun _ => ex_fieldAddr (o' := 2) Try.underlying39 rfl Try.sizeOf35 rfl rfl) fun q_1059 hq_1058 => ?_
 refine Wd.runb (off := 2) rfl rfl rfl rfl (fun _ _ _ h => ex_load_box Try.isAgg35 rfl h) rfl (fun _ h => h) fun q_1061 hq_1060 => ?_
 refine Wd.run rfl rfl rfl rfl (fun _ => ex_move rfl) fun q_1063 hq_1062 => ?_
 obtain ⟨hin_1066, hV⟩ := hV
 refine Wd.runx rfl rfl rfl rfl (exAll (ex_index_own Try.underlying35 Try.sizeOf32 rfl rfl h_41 hin_1066)) ?_
 intro p_1067 hp_1068
 intro q_1065 hq_1064
 refine Wd.runs (fp := fp_42) rfl rfl rfl rfl (ex_load_own_s Try.isAgg32 rfl rfl h_41 hp_1068 hin_1066) (fun _ h => St.f9 h) ?_
 intro u_1071 hu_1072
 obtain ⟨rfl, hr_1073⟩ := cInt_rep hu_1072
 replace hr_1073 := has_I64 hr_1073
 replace hV := hV hr_1073
 intro q_1070 hq_1069
 refine Wd.turn rfl rfl rfl fun w hS => ?_
 refine WL.buildn (c := (cInt .i64)) (xs := [(ix nodes_39 r_77), (ix nodes_39 r_80)]) (vs := [i6 (ix nodes_39 r_77), i6 (ix nodes_39 r_80)]) rfl Try.underlying35 Try.info32 rfl rfl ⟨rfl, rfl, trivial⟩ rfl ⟨_, _, rfl, (cInt_mk (I64.has hr_1053)), ⟨_, _, rfl, (cInt_mk (I64.has hr_1073)), rfl⟩⟩ hS rfl ?_
 clear hS
 intro v_1075 w fp_1076 h_1077 hS
 refine WL.nil (DQ.mk2 (C' := St w0 H (fp_1076 ++ ([(b_2, oc #[(pq b_5), i6 n_37, v_40, v_45, v_50, v_55] 39)] ++ ([(b_5, oc #[v_8, v_13, v_18, v_23, v_28, v_33] 79)] ++ (fp_10 ++ (fp_15 ++ (fp_20 ++ (fp_25 ++ (fp_30 ++ (fp_35 ++ (fp_42 ++ (fp_47 ++ (fp_52 ++ (fp_57 ++ L)))))))))))))) hS ⟨il, il, il, il, il, il, il, il, il, il, il, il, il, il, .inr (hq_1032 H (fp_1076 ++ ([(b_5, oc #[v_8, v_13, v_18, v_23, v_28, v_33] 79)] ++ (fp_10 ++ (fp_15 ++ (fp_20 ++ (fp_25 ++ (fp_30 ++ (fp_35 ++ (fp_42 ++ (fp_47 ++ (fp_52 ++ (fp_57 ++ L)))))))))))) #[(pq b_5), i6 n_37, v_40, v_45, v_50, v_55] _ rfl (fun _ h => St.f2 h)), .inr (hq_1030 _), .inr (hq_1028 _), .inr (hq_1026 _), trivial⟩ ?_)
 clear hS w
 refine Wd.turn rfl rfl rfl fun w hS => ?_
 replace hS := hS.f9.f9.f9.f9.f9.f9.f9.f8
 have hL_1078 := hS.freeze
 refine WL.call rfl rfl rfl (enters0 (vs := [(pq b_5), v_1075]) Try.call21 ⟨rfl, rfl, trivial⟩) (S_Keep  (h_9.mono hS.put_le) (h_14.mono hS.put_le) (h_19.mono hS.put_le) (h_24.mono hS.put_le) (h_29.mono hS.put_le) (h_34.mono hS.put_le) (h_1077.share hS.put_le) hL_1078 hV) ?_
 clear hV
 rintro _ w ⟨c_1079, m_1083, m_1086, v_1080, fp_1081, fp_1084, fp_1087, hV, rfl, h_1082, h_1085, h_1088, hL_1089⟩
 refine ⟨_, rfl, ?_⟩
 have hB_1092 := hS.back hL_1089
 replace hS := hB_1092
 clear hL_1089 hL_1078 hB_1092
 replace h_1082 := rep_own (K := H) h_1082 (fun _ _ h => h)
 replace h_1085 := rep_map (K := H) h_1085 (fun _ _ h => h)
 replace h_1088 := rep_map (K := H) h_1088 (fun _ _ h => h)
 refine WL.nil (DQ.mk2 (C' := St w0 H (fp_1076 ++ ([(b_5, oc #[v_8, v_1080, v_18, v_23, v_28, v_33] 79)] ++ (fp_10 ++ (fp_1081 ++ (fp_1084 ++ (fp_25 ++ (fp_30 ++ (fp_1087 ++ ([(b_2, oc #[(pq b_5), i6 n_37, v_40, v_45, v_50, v_55] 39)] ++ (fp_42 ++ (fp_47 ++ (fp_52 ++ (fp_57 ++ L)))))))))))))) hS ⟨il, il, il, il, il, il, il, il, il, il, il, il, il, il, il, il, il, il, trivial⟩ ?_)
 clear hS w
 refine Wd.nil fun w hS => ?_
 refine WQ.next ?_
 refine WC.sub (m := [(0, (pq b_2)), (6, i6 r_77), (7, i6 r_80)]) ⟨rfl, rfl, rfl, trivial⟩ ?_
 replace hS := hS.drop
 refine WC.sr ?_
 refine WL.mv rfl rfl ?_
 refine WL.run hS rfl rfl rfl (ex_nilCheck rfl) ?_
 refine WL.run hS rfl rfl rfl (ex_fieldAddr (o' := 2) Try.underlying39 rfl Try.sizeOf35 rfl rfl) ?_
 replace hS := hS.f8
 refine WL.run hS rfl rfl rfl (ex_load_box Try.isAgg35 rfl rfl) ?_
 refine WL.mv rfl rfl ?_
 obtain ⟨hin_1093, hV⟩ := hV
 refine WL.runx hS rfl rfl rfl (ex_index_own Try.underlying35 Try.sizeOf32 rfl rfl h_41 hin_1093) ?_
 intro p_1094 hp_1095
 replace hS := hS.f9
 refine WL.runx hS rfl rfl rfl (exNow (H := H) (L := [(b_2, oc #[(pq b_5), i6 n_37, v_40, v_45, v_50, v_55] 39)] ++ ([(b_5, oc #[v_8, v_1080, v_18, v_23, v_28, v_33] 79)] ++ (fp_10 ++ (fp_1081 ++ (fp_1084 ++ (fp_25 ++ (fp_30 ++ (fp_1087 ++ (fp_47 ++ (fp_52 ++ (fp_57 ++ L))))))))))) (ex_load_own_s Try.isAgg32 rfl rfl h_41 hp_1095 hin_1093)) ?_
 intro u_1096 hu_1097
 obtain ⟨rfl, hr_1098⟩ := cInt_rep hu_1097
 replace hr_1098 := has_I64 hr_1098
 replace hV := hV hr_1098
 refine WL.ma rfl rfl ?_
 refine WL.nx ?_
 refine WC.sr ?_
 refine WL.mv rfl rfl ?_
 refine WL.run hS rfl rfl rfl (ex_nilCheck rfl) ?_
 refine WL.run hS rfl rfl rfl (ex_fieldAddr (o' := 2) Try.underlying39 rfl Try.sizeOf35 rfl rfl) ?_
 replace hS := hS.f2
 refine WL.run hS rfl rfl rfl (ex_load_box Try.isAgg35 rfl rfl) ?_
 refine WL.mv rfl rfl ?_
 obtain ⟨hin_1099, hV⟩ := hV
 refine WL.runx hS rfl rfl rfl (ex_index_own Try.underlying35 Try.sizeOf32 rfl rfl h_41 hin_1099) ?_
 intro p_1100 hp_1101
 replace hS := hS.f2
 refine WL.runx hS rfl rfl rfl (exNow (H := H) (L := [(b_2, oc #[(pq b_5), i6 n_37, v_40, v_45, v_50, v_55] 39)] ++ ([(b_5, oc #[v_8, v_1080, v_18, v_23, v_28, v_33] 79)] ++ (fp_10 ++ (fp_1081 ++ (fp_1084 ++ (fp_25 ++ (fp_30 ++ (fp_1087 ++ (fp_47 ++ (fp_52 ++ (fp_57 ++ L))))))))))) (ex_load_own_s Try.isAgg32 rfl rfl h_41 hp_1101 hin_1099)) ?_
 intro u_1102 hu_1103
 obtain ⟨rfl, hr_1104⟩ := cInt_rep hu_1103
 replace hr_1104 := has_I64 hr_1104
 replace hV := hV hr_1104
 refine WL.ma rfl rfl ?_
 refine WL.nx ?_
 refine WC.sub (m := [(0, (pq b_2)), (6, i6 r_77), (7, i6 r_80), (11, i6 (ix nodes_39 r_77)), (12, i6 (ix nodes_39 r_80))]) ⟨rfl, rfl, rfl, rfl, rfl, trivial⟩ ?_
 refine WC.sr ?_
 refine WL.mv rfl rfl ?_
 refine WL.run hS rfl rfl rfl (ex_nilCheck rfl) ?_
 refine WL.run hS rfl rfl rfl (ex_fieldAddr (o' := 3) Try.underlying39 rfl Try.sizeOf37 rfl rfl) ?_
 replace hS := hS.f2
 refine WL.run hS rfl rfl rfl (ex_load_box Try.isAgg37 rfl rfl) ?_
 refine WL.mv rfl rfl ?_
 obtain ⟨hin_1105, hV⟩ := hV
 refine WL.runx hS rfl rfl rfl (ex_index_own Try.underlying37 Try.sizeOf28 rfl rfl h_46 hin_1105) ?_
 intro p_1106 hp_1107
 replace hS := hS.f10
 refine WL.runx hS rfl rfl rfl (exNow (H := H) (L := [(b_2, oc #[(pq b_5), i6 n_37, v_40, v_45, v_50, v_55] 39)] ++ (fp_42 ++ ([(b_5, oc #[v_8, v_1080, v_18, v_23, v_28, v_33] 79)] ++ (fp_10 ++ (fp_1081 ++ (fp_1084 ++ (fp_25 ++ (fp_30 ++ (fp_1087 ++ (fp_52 ++ (fp_57 ++ L))))))))))) (ex_load_own_s Try.isAgg28 rfl rfl h_46 hp_1107 hin_1105)) ?_
 intro u_1108 hu_1109
 replace hu_1109 := cSl_rep hu_1109
 refine WL.ma rfl rfl ?_
 refine WL.nx ?_
 refine WC.sr ?_
 refine WL.mv rfl rfl ?_
 refine WL.run hS rfl rfl rfl (ex_nilCheck rfl) ?_
 refine WL.run hS rfl rfl rfl (ex_fieldAddr (o' := 3) Try.underlying39 rfl Try.sizeOf37 rfl rfl) ?_
 replace hS := hS.f2
 refine WL.run hS rfl rfl rfl (ex_load_box Try.isAgg37 rfl rfl) ?_
 refine WL.mv rfl rfl ?_
 obtain ⟨hin_1110, hV⟩ := hV
 refine WL.runx hS rfl rfl rfl (ex_index_own Try.underlying37 Try.sizeOf28 rfl rfl h_46 hin_1110) ?_
 intro p_1111 hp_1112
 replace hS := hS.f2
 refine WL.runx hS rfl rfl rfl (exNow (H := H) (L := [(b_2, oc #[(pq b_5), i6 n_37, v_40, v_45, v_50, v_55] 39)] ++ (fp_42 ++ ([(b_5, oc #[v_8, v_1080, v_18, v_23, v_28, v_33] 79)] ++ (fp_10 ++ (fp_1081 ++ (fp_1084 ++ (fp_25 ++ (fp_30 ++ (fp_1087 ++ (fp_52 ++ (fp_57 ++ L))))))))))) (ex_load_own_s Try.isAgg28 rfl rfl h_46 hp_1112 hin_1110)) ?_
 intro u_1113 hu_1114
 replace hu_1114 := cSl_rep hu_1114
 refine WL.ma rfl rfl ?_
 refine WL.nx ?_
 refine WC.sub (m := [(0, (pq b_2)), (11, i6 (ix nodes_39 r_77)), (12, i6 (ix nodes_39 r_80)), (13, u_1108), (14, u_1113)]) ⟨rfl, rfl, rfl, rfl, rfl, trivial⟩ ?_
 refine WC.sr ?_
 refine WL.mv rfl rfl ?_
 refine WL.run hS rfl rfl rfl (ex_nilCheck rfl) ?_
 refine WL.run hS rfl rfl rfl (ex_fieldAddr (o' := 0) Try.underlying39 rfl Try.sizeOf36 rfl rfl) ?_
 replace hS := hS.f2
 refine WL.run hS rfl rfl rfl (ex_load_box Try.isAgg36 rfl rfl) ?_
 replace hS := hS.f10.f10.f10.f10.f10.f10.f10
 refine WL.call rfl rfl rfl (enters0 (vs := [(pq b_5)]) Try.call14 ⟨rfl, trivial⟩) (S_False_  h_9 h_1082 h_1085 h_24 h_29 h_1088 hS hV) ?_
 clear hV hS
 rintro _ w ⟨r_1115, hV, rfl, hr_1116, hS⟩
 refine ⟨_, rfl, ?_⟩
 refine WL.ma rfl rfl ?_
 refine WL.nx ?_
 refine WC.sr ?_
 refine WL.mv rfl rfl ?_
 refine WL.run hS rfl rfl rfl (ex_nilCheck rfl) ?_
 refine WL.run hS rfl rfl rfl (ex_fieldAddr (o' := 0) Try.underlying39 rfl Try.sizeOf36 rfl rfl) ?_
 replace hS := hS.f8
 refine WL.run hS rfl rfl rfl (ex_load_box Try.isAgg36 rfl rfl) ?_
 replace hS := hS.f8.f8.f8.f8.f8.f8.f8
 refine WL.call rfl rfl rfl (enters0 (vs := [(pq b_5)]) Try.call15 ⟨rfl, trivial⟩) (S_True_  h_9 h_1082 h_1085 h_24 h_29 h_1088 hS hV) ?_
 clear hV hS
 rintro _ w ⟨r_1118, hV, rfl, hr_1119, hS⟩
 refine ⟨_, rfl, ?_⟩
 refine WL.ma rfl rfl ?_
 refine WL.nx ?_
 refine WC.sub (m := [(0, (pq b_2)), (11, i6 (ix nodes_39 r_77)), (12, i6 (ix nodes_39 r_80)), (13, u_1108), (14, u_1113), (15, i6 r_1115), (16, i6 r_1118)]) ⟨rfl, rfl, rfl, rfl, rfl, rfl, rfl, trivial⟩ ?_
 refine WC.sr ?_
 refine WL.mv rfl rfl ?_
 refine WL.run hS rfl rfl rfl (ex_nilCheck rfl) ?_
 refine WL.run hS rfl rfl rfl (ex_fieldAddr (o' := 1) Try.underlying39 rfl Try.sizeOf3 rfl rfl) ?_
 replace hS := hS.f8
 refine WL.run hS rfl rfl rfl (ex_load_box Try.isAgg3 rfl rfl) ?_
 refine WL.call rfl rfl rfl (enters0 (vs := [i6 n_37, .bool false]) Try.call16 ⟨rfl, rfl, trivial⟩) (S_rConst  hr_38 hS hV) ?_
 clear hV hS
 rintro _ w ⟨r_1121, v_1122, fp_1123, hV, rfl, h_1124, hS⟩
 refine ⟨_, rfl, ?_⟩
 refine WL.ma rfl rfl ?_
 refine WL.nx ?_
 refine WC.sr ?_
 refine WL.mv rfl rfl ?_
 refine WL.run hS rfl rfl rfl (ex_nilCheck rfl) ?_
 refine WL.run hS rfl rfl rfl (ex_fieldAddr (o' := 1) Try.underlying39 rfl Try.sizeOf3 rfl rfl) ?_
 replace hS := hS.f2
 refine WL.run hS rfl rfl rfl (ex_load_box Try.isAgg3 rfl rfl) ?_
 refine WL.call rfl rfl rfl (enters0 (vs := [i6 n_37, .bool true]) Try.call16 ⟨rfl, rfl, trivial⟩) (S_rConst  hr_38 hS hV) ?_
 clear hV hS
 rintro _ w ⟨r_1127, v_1128, fp_1129, hV, rfl, h_1130, hS⟩
 refine ⟨_, rfl, ?_⟩
 refine WL.ma rfl rfl ?_
 refine WL.nx ?_
 refine WC.sub (m := [(0, (pq b_2)), (11, i6 (ix nodes_39 r_77)), (12, i6 (ix nodes_39 r_80)), (13, u_1108), (14, u_1113), (15, i6 r_1115), (16, i6 r_1118), (17, v_1122), (18, v_1128)]) ⟨rfl, rfl, rfl, rfl, rfl, rfl, rfl, rfl, rfl, trivial⟩ ?_
 refine WC.sr ?_
 refine WL.mv rfl rfl ?_
 refine WL.mv rfl rfl ?_
 refine WL.mv rfl rfl ?_
 refine WL.mv rfl rfl ?_
 refine WL.mv rfl rfl ?_
 refine WL.buildn (c := (cInt .i64)) (xs := [r_1115, r_1118, (ix nodes_39 r_77), (ix nodes_39 r_80)]) (vs := [i6 r_1115, i6 r_1118, i6 (ix nodes_39 r_77), i6 (ix nodes_39 r_80)]) rfl Try.underlying35 Try.info32 rfl rfl ⟨rfl, rfl, rfl, rfl, trivial⟩ rfl ⟨_, _, rfl, (cInt_mk (I64.has hr_1116)), ⟨_, _, rfl, (cInt_mk (I64.has hr_1119)), ⟨_, _, rfl, (cInt_mk (I64.has hr_1098)), ⟨_, _, rfl, (cInt_mk (I64.has hr_1104)), rfl⟩⟩⟩⟩ hS rfl ?_
 clear hS
 intro v_1134 w fp_1135 h_1136 hS
 refine WL.run hS rfl rfl rfl (ex_nilCheck rfl) ?_
 refine WL.run hS rfl rfl rfl (ex_fieldAddr (o' := 2) Try.underlying39 rfl Try.sizeOf35 rfl rfl) ?_
 replace hS := hS.f3
 refine WL.store_box (pre := [(pq b_5), i6 n_37]) (old := [v_40]) (rst := [v_45, v_50, v_55]) (cs := [v_1134]) (arr' := #[(pq b_5), i6 n_37, v_1134, v_45, v_50, v_55]) Try.sizeOf35 rfl rfl (congrArg Array.toList (cells_one (OwnSl.one h_1136))) ⟨(OwnSl.one h_1136), trivial⟩ rfl rfl rfl rfl hS ?_
 clear hS
 intro w hS
 refine WL.nx ?_
 refine WC.sub (m := [(0, (pq b_2)), (13, u_1108), (14, u_1113), (17, v_1122), (18, v_1128)]) ⟨rfl, rfl, rfl, rfl, rfl, trivial⟩ ?_
 replace hS := hS.f13.drop
 refine WC.sr ?_
 refine WL.mv rfl rfl ?_
 refine WL.mv rfl rfl ?_
 refine WL.mv rfl rfl ?_
 refine WL.mv rfl rfl ?_
 refine WL.mv rfl rfl ?_
 replace hS := hS.f4
 obtain ⟨H_1141, le_1142, h_1143, hS⟩ : ∃ K, View.le H K ∧ IsSl K cBool v_1122 r_1121 ∧ St w0 K ([(b_2, oc #[(pq b_5), i6 n_37, v_1134, v_45, v_50, v_55] 39)] ++ (fp_1135 ++ (fp_1129 ++ ([(b_5, oc #[v_8, v_1080, v_18, v_23, v_28, v_33] 79)] ++ (fp_10 ++ (fp_1081 ++ (fp_1084 ++ (fp_25 ++ (fp_30 ++ (fp_1087 ++ (fp_47 ++ (fp_52 ++ (fp_57 ++ L))))))))))))) w := ⟨_, hS.put_le, h_1124.share hS.put_le, hS.freeze⟩
 replace hS := hS.f3
 obtain ⟨H_1144, le_1145, h_1146, hS⟩ : ∃ K, View.le H_1141 K ∧ IsSl K cBool v_1128 r_1127 ∧ St w0 K ([(b_2, oc #[(pq b_5), i6 n_37, v_1134, v_45, v_50, v_55] 39)] ++ (fp_1135 ++ ([(b_5, oc #[v_8, v_1080, v_18, v_23, v_28, v_33] 79)] ++ (fp_10 ++ (fp_1081 ++ (fp_1084 ++ (fp_25 ++ (fp_30 ++ (fp_1087 ++ (fp_47 ++ (fp_52 ++ (fp_57 ++ L)))))))))))) w := ⟨_, hS.put_le, (h_1130.mono le_1142).share hS.put_le, hS.freeze⟩
 refine WL.buildn (c := (cSl cBool)) (xs := [r_1121, r_1127, (ix fs_44 r_77), (ix fs_44 r_80)]) (vs := [v_1122, v_1128, u_1108, u_1113]) rfl Try.underlying37 Try.info28 rfl rfl ⟨rfl, rfl, rfl, rfl, trivial⟩ rfl ⟨_, _, rfl, (cSl_mk (h_1143.mono le_1145)), ⟨_, _, rfl, (cSl_mk h_1146), ⟨_, _, rfl, (cSl_mk ((hu_1109.mono le_1142).mono le_1145)), ⟨_, _, rfl, (cSl_mk ((hu_1114.mono le_1142).mono le_1145)), rfl⟩⟩⟩⟩ hS rfl ?_
 clear hS
 intro v_1138 w fp_1139 h_1140 hS
 refine WL.run hS rfl rfl rfl (ex_nilCheck rfl) ?_
 refine WL.run hS rfl rfl rfl (ex_fieldAddr (o' := 3) Try.underlying39 rfl Try.sizeOf37 rfl rfl) ?_
 replace hS := hS.f2
 refine WL.store_box (pre := [(pq b_5), i6 n_37, v_1134]) (old := [v_45]) (rst := [v_50, v_55]) (cs := [v_1138]) (arr' := #[(pq b_5), i6 n_37, v_1134, v_1138, v_50, v_55]) Try.sizeOf37 rfl rfl (congrArg Array.toList (cells_one (OwnSl.one h_1140))) ⟨(OwnSl.one h_1140), trivial⟩ rfl rfl rfl rfl hS ?_
 clear hS
 intro w hS
 refine WL.nx ?_
 refine WC.sub (m := [(0, (pq b_2)), (13, u_1108), (14, u_1113)]) ⟨rfl, rfl, rfl, trivial⟩ ?_
 replace hS := hS.f11.drop
 refine WC.sr ?_
 refine WL.mv rfl rfl ?_
 refine WL.mv rfl rfl ?_
 refine WL.mv rfl rfl ?_
 refine WL.buildn (c := (cSl cBool)) (xs := [(ix fs_44 r_77), (ix fs_44 r_80)]) (vs := [u_1108, u_1113]) rfl Try.underlying37 Try.info28 rfl rfl ⟨rfl, rfl, trivial⟩ rfl ⟨_, _, rfl, (cSl_mk ((hu_1109.mono le_1142).mono le_1145)), ⟨_, _, rfl, (cSl_mk ((hu_1114.mono le_1142).mono le_1145)), rfl⟩⟩ hS rfl ?_
 clear hS
 intro v_1148 w fp_1149 h_1150 hS
 refine WL.run hS rfl rfl rfl (ex_nilCheck rfl) ?_
 refine WL.run hS rfl rfl rfl (ex_fieldAddr (o' := 5) Try.underlying39 rfl Try.sizeOf37 rfl rfl) ?_
 replace hS := hS.f2
 refine WL.store_box (pre := [(pq b_5), i6 n_37, v_1134, v_1138, v_50]) (old := [v_55]) (rst := []) (cs := [v_1148]) (arr' := #[(pq b_5), i6 n_37, v_1134, v_1138, v_50, v_1148]) Try.sizeOf37 rfl rfl (congrArg Array.toList (cells_one (OwnSl.one h_1150))) ⟨(OwnSl.one h_1150), trivial⟩ rfl rfl rfl rfl hS ?_
 clear hS
 intro w hS
 refine WL.nx ?_
 replace hS := hS.f13.drop
 refine WC.sr ?_
 refine WL.mv rfl rfl ?_
 refine WL.run hS rfl rfl rfl (ex_nilCheck rfl) ?_
 refine WL.run hS rfl rfl rfl (ex_fieldAddr (o' := 0) Try.underlying39 rfl Try.sizeOf36 rfl rfl) ?_
 refine WL.run hS rfl rfl rfl (ex_load_box Try.isAgg36 rfl rfl) ?_
 replace hS := hS.f11.f11.f11.f11.f11.f11.f11
 refine WL.call rfl rfl rfl (enters0 (vs := [(pq b_5)]) Try.call22 ⟨rfl, trivial⟩) (S_Nodes  ((h_9.mono le_1142).mono le_1145) ((h_1082.mono le_1142).mono le_1145) ((h_1085.mono le_1142).mono le_1145) ((h_24.mono le_1142).mono le_1145) ((h_29.mono le_1142).mono le_1145) ((h_1088.mono le_1142).mono le_1145) hS hV) ?_
 clear hV hS
 rintro _ w ⟨r_1151, hV, rfl, hr_1152, hS⟩
 refine ⟨_, rfl, ?_⟩
 refine WL.ma rfl rfl ?_
 refine WL.nx ?_
 refine WC.sub (m := [(0, (pq b_2)), (19, i6 r_1151)]) ⟨rfl, rfl, trivial⟩ ?_
 refine WC.seq ?_
 refine WC.drawn (σ := [0, 1, 2, 3, 4, 5, 6, 7, 8, 9]) (C := St w0 H_1144 ([(b_5, oc #[v_8, v_1080, v_18, v_23, v_28, v_33] 79)] ++ (fp_10 ++ (fp_1081 ++ (fp_1084 ++ (fp_25 ++ (fp_30 ++ (fp_1087 ++ ([(b_2, oc #[(pq b_5), i6 n_37, v_1134, v_1138, v_50, v_1148] 39)] ++ (fp_1149 ++ (fp_1139 ++ (fp_1135 ++ (fp_52 ++ L))))))))))))) [[], [0], [0, 1], [0, 1, 2], [], [4], [4, 5], [4, 5, 6], [0, 1, 2, 3, 4, 5, 6, 7], [0, 1, 2, 3, 4, 5, 6, 7, 8]] [8] Try.mixed (by kernel_rfl) (hS.drawn _) ?_
 clear hS w
 refine Wd.run rfl rfl rfl rfl (fun _ => ex_move rfl) fun q_1155 hq_1154 => ?_
 refine Wd.run rfl rfl rfl rfl (fun _ => ex_nilCheck rfl) fun q_1157 hq_1156 => ?_
 refine Wd.run rfl rfl rfl rfl (fun _ => ex_fieldAddr (o' := 5) Try.underlying39 rfl Try.sizeOf37 rfl rfl) fun q_1159 hq_1158 => ?_
 refine Wd.runb (off := 5) rfl rfl rfl rfl (fun _ _ _ h => ex_load_box Try.isAgg37 rfl h) rfl (fun _ h => St.f8 h) fun q_1161 hq_1160 => ?_
 refine Wd.run rfl rfl rfl rfl (fun _ => ex_move rfl) fun q_1163 hq_1162 => ?_
 refine Wd.run rfl rfl rfl rfl (fun _ => ex_nilCheck rfl) fun q_1165 hq_1164 => ?_
 refine Wd.run rfl rfl rfl rfl (fun _ => ex_fieldAddr (o' := 4) Try.underlying39 rfl Try.sizeOf27 rfl rfl) fun q_1167 hq_1166 => ?_
 refine Wd.runb (off := 4) rfl rfl rfl rfl (fun _ _ _ h => ex_load_box Try.isAgg27 rfl h) rfl (fun _ h => St.f8 h) fun q_1169 hq_1168 => ?_
 refine Wd.turn rfl rfl rfl fun w hS => ?_
 replace hS := hS.f12.f10
 have hL_1170 := hS.freeze
 have hL_1171 := hL_1170.freeze
 refine WL.call rfl rfl rfl (enters0 (vs := [v_1148, v_50]) Try.call23 ⟨rfl, rfl, trivial⟩) (S_rSize  ((h_1150.share hS.put_le).mono hL_1170.put_le) ((((h_51.mono le_1142).mono le_1145).mono hS.put_le).share hL_1170.put_le) hL_1171 hV) ?_
 clear hV
 rintro _ w ⟨r_1172, hV, rfl, hr_1173, hL_1174⟩
 refine ⟨_, rfl, ?_⟩
 have hB_1176 := hL_1170.back hL_1174
 have hB_1177 := hS.back hB_1176
 replace hS := hB_1177
 clear hL_1174 hL_1170 hL_1171 hB_1176 hB_1177
 refine WL.nil (DQ.mk2 (C' := St w0 H_1144 (fp_1149 ++ (fp_52 ++ ([(b_5, oc #[v_8, v_1080, v_18, v_23, v_28, v_33] 79)] ++ (fp_10 ++ (fp_1081 ++ (fp_1084 ++ (fp_25 ++ (fp_30 ++ (fp_1087 ++ ([(b_2, oc #[(pq b_5), i6 n_37, v_1134, v_1138, v_50, v_1148] 39)] ++ (fp_1139 ++ (fp_1135 ++ L))))))))))))) hS ⟨il, il, il, il, il, il, il, il, trivial⟩ ?_)
 clear hS w
 refine Wd.run rfl rfl rfl rfl (fun _ => ex_assign rfl) fun q_1179 hq_1178 => ?_
 refine Wd.nil fun w hS => ?_
 refine WQ.next ?_
 refine WC.sr ?_
 refine WL.mv rfl rfl ?_
 refine WL.mv rfl rfl ?_
 refine WL.run hS rfl rfl rfl (ex_neq rfl rfl) ?_
 refine WL.nx ?_
 refine WC.sub (m := [(0, (pq b_2)), (250, .bool (decide (r_1151 ≠ r_1172)))]) ⟨rfl, rfl, trivial⟩ ?_
 refine WC.cond rfl ?_ ?_
 intro hc_1181
 replace hV := hV.1 (of_decide_eq_true hc_1181)
 refine WC.sr ?_
 refine WL.ma rfl rfl ?_
 refine WL.nx ?_
 refine WC.ret ?_
 refine WQ.out nofun ?_
 refine WQ.pass nofun ?_
 replace hS := hS.f2.f11.f12.f11.f11.f11.f11.f11.f11.f11.f12
 exact leave1 rfl rfl ⟨false, nodes_7, c_1079, m_1083, order_22, level_27, m_1086, [r_1115, r_1118, (ix nodes_39 r_77), (ix nodes_39 r_80)], [r_1121, r_1127, (ix fs_44 r_77), (ix fs_44 r_80)], order_49, [(ix fs_44 r_77), (ix fs_44 r_80)], v_8, fp_10, v_1080, fp_1081, fp_1084, v_23, fp_25, v_28, fp_30, fp_1087, v_1134, fp_1135, v_1138, fp_1139, v_50, fp_52, v_1148, fp_1149, H_1144, hV, rfl, (((View.le.refl _).trans le_1142).trans le_1145), ((h_9.mono le_1142).mono le_1145), ((h_1082.mono le_1142).mono le_1145), ((h_1085.mono le_1142).mono le_1145), ((h_24.mono le_1142).mono le_1145), ((h_29.mono le_1142).mono le_1145), ((h_1088.mono le_1142).mono le_1145), ((h_1136.mono le_1142).mono le_1145), h_1140, ((h_51.mono le_1142).mono le_1145), h_1150, hS⟩
 intro hc_1181
 replace hV := hV.2 (of_decide_eq_false hc_1181)
 refine WC.skip ?_
 refine WQ.out nofun ?_
 replace hS := hS.f2.f11.f12.f11.f11.f11.f11.f11.f11.f11.f12
 exact WQ.there fun a ha => ⟨nodes_7, c_1079, m_1083, order_22, level_27, m_1086, [r_1115, r_1118, (ix nodes_39 r_77), (ix nodes_39 r_80)], [r_1121, r_1127, (ix fs_44 r_77), (ix fs_44 r_80)], order_49, [(ix fs_44 r_77), (ix fs_44 r_80)], H_1144, v_8, fp_10, v_1080, fp_1081, fp_1084, v_23, fp_25, v_28, fp_30, fp_1087, v_1134, fp_1135, v_1138, fp_1139, v_50, fp_52, v_1148, fp_1149, hV, (((View.le.refl _).trans le_1142).trans le_1145), ((h_9.mono le_1142).mono le_1145), ((h_1082.mono le_1142).mono le_1145), ((h_1085.mono le_1142).mono le_1145), ((h_24.mono le_1142).mono le_1145), ((h_29.mono le_1142).mono le_1145), ((h_1088.mono le_1142).mono le_1145), ((h_1136.mono le_1142).mono le_1145), h_1140, ((h_51.mono le_1142).mono le_1145), h_1150, hS, ha.of_sub ⟨rfl, trivial⟩⟩
 intro hc_1182
 replace hV := hV.2 (of_decide_eq_false hc_1182)
 refine WC.skip ?_
 refine WQ.out nofun ?_
 replace hS := hS.f12.f12.f12.f12.f12.f12.f12.f12.f12.f12.f12.f12
 exact WQ.there fun a ha => ⟨nodes_7, free_12, xby_17, order_22, level_27, memo_32, nodes_39, fs_44, order_49, given_54, H, v_8, fp_10, v_13, fp_15, fp_20, v_23, fp_25, v_28, fp_30, fp_35, v_40, fp_42, v_45, fp_47, v_50, fp_52, v_55, fp_57, hV, (View.le.refl _), h_9, h_14, h_19, h_24, h_29, h_34, h_41, h_46, h_51, h_56, hS, ha.of_sub ⟨rfl, trivial⟩⟩

theorem S_looks {w0 : World} {H : View} {L : Seg} {w : World} {b_2 : Nat} {b_5 : Nat} {v_8 : Value} {nodes_7 : N3} {fp_10 : Seg} {v_13 : Value} {free_12 : LI} {fp_15 : Seg} {v_18 : Value} {xby_17 : M3} {fp_20 : Seg} {v_23 : Value} {order_22 : LI} {fp_25 : Seg} {v_28 : Value} {level_27 : LI} {fp_30 : Seg} {v_33 : Value} {memo_32 : M3} {fp_35 : Seg} {n_37 : Int} {v_40 : Value} {nodes_39 : LI} {fp_42 : Seg} {v_45 : Value} {fs_44 : B2} {fp_47 : Seg} {v_50 : Value} {order_49 : LI} {fp_52 : Seg} {v_55 : Value} {given_54 : B2} {fp_57 : Seg} {Kind_60 : Int} {A_62 : Int} {B_64 : Int} {C_66 : Int} {v_69 : Value} {Vars_68 : LI} {v_72 : Value} {At_71 : List Bool} {held_74 : Int} {Q : Bool → N3 → LI → M3 → M3 → Prop} (h_9 : OwnSl H (cPair (cInt .i64) (cPair (cInt .i64) (cInt .i64))) 81 v_8 nodes_7 fp_10) (h_14 : OwnSl H (cInt .i64) 32 v_13 free_12 fp_15) (h_19 : OwnMp H kTri (cInt .i64) v_18 xby_17 fp_20) (h_24 : OwnSl H (cInt .i64) 3 v_23 order_22 fp_25) (h_29 : OwnSl H (cInt .i64) 3 v_28 level_27 fp_30) (h_34 : OwnMp H kTri (cInt .i64) v_33 memo_32 fp_35) (hr_38 : I64 n_37) (h_41 : OwnSl H (cInt .i64) 32 v_40 nodes_39 fp_42) (h_46 : OwnSl H (cSl cBool) 28 v_45 fs_44 fp_47) (h_51 : OwnSl H (cInt .i64) 3 v_50 order_49 fp_52) (h_56 : OwnSl H (cSl cBool) 28 v_55 given_54 fp_57) (hr_61 : I64 Kind_60) (hr_63 : I64 A_62) (hr_65 : I64 B_64) (hr_67 : I64 C_66) (h_70 : IsSl H (cInt .i64) v_69 Vars_68) (h_73 : IsSl H cBool v_72 At_71) (hr_75 : I64 held_74) (hS : St w0 H ([(b_2, oc #[(pq b_5), i6 n_37, v_40, v_45, v_50, v_55] 39)] ++ ([(b_5, oc #[v_8, v_13, v_18, v_23, v_28, v_33] 79)] ++ (fp_10 ++ (fp_15 ++ (fp_20 ++ (fp_25 ++ (fp_30 ++ (fp_35 ++ (fp_42 ++ (fp_47 ++ (fp_52 ++ (fp_57 ++ L)))))))))))) w) (hV : V_looks nodes_7 free_12 xby_17 order_22 level_27 memo_32 n_37 nodes_39 fs_44 order_49 given_54 Kind_60 A_62 B_64 C_66 Vars_68 At_71 held_74 Q) :
 Calls Try.prog 11 #[(pq b_2), .agg #[i6 Kind_60, i6 A_62, i6 B_64, i6 C_66, v_69, v_72], i6 held_74] w fun e w' => ∃ (r1 : Bool) (r2 : N3) (r3 : LI) (r4 : M3) (r5 : M3) (v2 : Value) (fp2 : Seg) (v3 : Value) (fp3 : Seg) (fp4 : Seg) (fp5 : Seg), Q r1 r2 r3 r4 r5 ∧ e = .returned (.bool r1) ∧ OwnSl H (cPair (cInt .i64) (cPair (cInt .i64) (cInt .i64))) 81 v2 r2 fp2 ∧ OwnSl H (cInt .i64) 32 v3 r3 fp3 ∧ OwnMp H kTri (cInt .i64) v_18 r4 fp4 ∧ OwnMp H kTri (cInt .i64) v_33 r5 fp5 ∧ St w0 H ([(b_2, oc #[(pq b_5), i6 n_37, v_40, v_45, v_50, v_55] 39)] ++ ([(b_5, oc #[v2, v3, v_18, v_23, v_28, v_33] 79)] ++ (fp2 ++ (fp3 ++ (fp4 ++ (fp_25 ++ (fp_30 ++ (fp5 ++ (fp_42 ++ (fp_47 ++ (fp_52 ++ (fp_57 ++ L)))))))))))) w' := by
 unfold V_looks at hV
 refine enter Try.func11 rfl Try.ntmps11 rfl (lk_args_cons (d := 0) (v := (pq b_2)) rfl (lk_args_cons (d := 1) (v := .agg #[i6 Kind_60, i6 A_62, i6 B_64, i6 C_66, v_69, v_72]) rfl (lk_args_cons (d := 2) (v := i6 held_74) rfl (lk_args_nil _)))) ?_
 refine WC.sr ?_
 refine WL.box (arr := #[i6 Kind_60, i6 A_62, i6 B_64, i6 C_66, v_69, v_72]) rfl rfl rfl hS ?_
 clear hS
 intro b_76 w hS
 refine WL.ma rfl rfl ?_
 refine WL.nx ?_
 refine WC.sr ?_
 refine WL.mv rfl rfl ?_
 refine WL.run hS rfl rfl rfl (ex_nilCheck rfl) ?_
 refine WL.run hS rfl rfl rfl (ex_fieldAddr (o' := 2) Try.underlying39 rfl Try.sizeOf35 rfl rfl) ?_
 replace hS := hS.f2
 refine WL.run hS rfl rfl rfl (ex_load_box Try.isAgg35 rfl rfl) ?_
 have hl_78 : Len nodes_39 := h_41.bound
 replace hV := hV hl_78
 refine WL.run hS rfl rfl rfl (ex_len_own Try.underlying35 rfl h_41) ?_
 obtain ⟨hi_80, hV⟩ := hV
 refine WL.run hS rfl rfl rfl (ex_sub rfl rfl hi_80) ?_
 refine WL.ma rfl rfl ?_
 refine WL.nx ?_
 refine WC.sr ?_
 refine WL.mv rfl rfl ?_
 refine WL.run hS rfl rfl rfl (ex_nilCheck rfl) ?_
 refine WL.run hS rfl rfl rfl (ex_fieldAddr (o' := 2) Try.underlying39 rfl Try.sizeOf35 rfl rfl) ?_
 refine WL.run hS rfl rfl rfl (ex_load_box Try.isAgg35 rfl rfl) ?_
 refine WL.mv rfl rfl ?_
 obtain ⟨hin_81, hV⟩ := hV
 refine WL.runx hS rfl rfl rfl (ex_index_own Try.underlying35 Try.sizeOf32 rfl rfl h_41 hin_81) ?_
 intro p_82 hp_83
 replace hS := hS.f10
 refine WL.runx hS rfl rfl rfl (exNow (H := H) (L := [(b_2, oc #[(pq b_5), i6 n_37, v_40, v_45, v_50, v_55] 39)] ++ ([(b_76, oc #[i6 Kind_60, i6 A_62, i6 B_64, i6 C_66, v_69, v_72] 30)] ++ ([(b_5, oc #[v_8, v_13, v_18, v_23, v_28, v_33] 79)] ++ (fp_10 ++ (fp_15 ++ (fp_20 ++ (fp_25 ++ (fp_30 ++ (fp_35 ++ (fp_47 ++ (fp_52 ++ (fp_57 ++ L)))))))))))) (ex_load_own_s Try.isAgg32 rfl rfl h_41 hp_83 hin_81)) ?_
 intro u_84 hu_85
 obtain ⟨rfl, hr_86⟩ := cInt_rep hu_85
 replace hr_86 := has_I64 hr_86
 replace hV := hV hr_86
 refine WL.ma rfl rfl ?_
 refine WL.nx ?_
 refine WC.sub (m := [(0, (pq b_2)), (2, i6 held_74), (4, (pq b_76)), (7, i6 ((nodes_39.length : Int) - 1)), (8, i6 (ix nodes_39 ((nodes_39.length : Int) - 1)))]) ⟨rfl, rfl, rfl, rfl, rfl, trivial⟩ ?_
 refine WC.sr ?_
 refine WL.mv rfl rfl ?_
 refine WL.run hS rfl rfl rfl (ex_nilCheck rfl) ?_
 refine WL.run hS rfl rfl rfl (ex_fieldAddr (o' := 3) Try.underlying39 rfl Try.sizeOf37 rfl rfl) ?_
 replace hS := hS.f2
 refine WL.run hS rfl rfl rfl (ex_load_box Try.isAgg37 rfl rfl) ?_
 refine WL.mv rfl rfl ?_
 obtain ⟨hin_87, hV⟩ := hV
 refine WL.runx hS rfl rfl rfl (ex_index_own Try.underlying37 Try.sizeOf28 rfl rfl h_46 hin_87) ?_
 intro p_88 hp_89
 replace hS := hS.f11
 refine WL.runx hS rfl rfl rfl (exNow (H := H) (L := [(b_2, oc #[(pq b_5), i6 n_37, v_40, v_45, v_50, v_55] 39)] ++ (fp_42 ++ ([(b_76, oc #[i6 Kind_60, i6 A_62, i6 B_64, i6 C_66, v_69, v_72] 30)] ++ ([(b_5, oc #[v_8, v_13, v_18, v_23, v_28, v_33] 79)] ++ (fp_10 ++ (fp_15 ++ (fp_20 ++ (fp_25 ++ (fp_30 ++ (fp_35 ++ (fp_52 ++ (fp_57 ++ L)))))))))))) (ex_load_own_s Try.isAgg28 rfl rfl h_46 hp_89 hin_87)) ?_
 intro u_90 hu_91
 replace hu_91 := cSl_rep hu_91
 refine WL.ma rfl rfl ?_
 refine WL.nx ?_
 obtain ⟨J_292, hJ_293, hV⟩ := hV
 refine WC.meet (fun a w => J_292 () ∧ St w0 H ([(b_2, oc #[(pq b_5), i6 n_37, v_40, v_45, v_50, v_55] 39)] ++ ([(b_5, oc #[v_8, v_13, v_18, v_23, v_28, v_33] 79)] ++ (fp_10 ++ (fp_15 ++ (fp_20 ++ (fp_25 ++ (fp_30 ++ (fp_35 ++ (fp_42 ++ (fp_47 ++ (fp_52 ++ (fp_57 ++ ([(b_76, oc #[i6 Kind_60, i6 A_62, i6 B_64, i6 C_66, v_69, v_72] 30)] ++ L))))))))))))) w ∧ Fr 193 [(0, (pq b_2)), (2, i6 held_74), (4, (pq b_76)), (7, i6 ((nodes_39.length : Int) - 1)), (8, i6 (ix nodes_39 ((nodes_39.length : Int) - 1))), (9, u_90)] a) ?_ ?_
 rintro a w ⟨hI, hS, ha⟩
 refine in_frame ha ?_
 clear ha hV
 have hV := hJ_293 _ hI
 clear hI hJ_293
 obtain ⟨J_566, hJ_567, hV⟩ := hV
 refine WC.meet (fun a w => ∃ (c_551 : N3) (c_556 : LI) (c_560 : M3) (c_563 : M3) (v_552 : Value) (fp_553 : Seg) (v_557 : Value) (fp_558 : Seg) (fp_561 : Seg) (fp_564 : Seg), J_566 (c_551, c_556, c_560, c_563) ∧ OwnSl H (cPair (cInt .i64) (cPair (cInt .i64) (cInt .i64))) 81 v_552 c_551 fp_553 ∧ OwnSl H (cInt .i64) 32 v_557 c_556 fp_558 ∧ OwnMp H kTri (cInt .i64) v_18 c_560 fp_561 ∧ OwnMp H kTri (cInt .i64) v_33 c_563 fp_564 ∧ St w0 H ([(b_2, oc #[(pq b_5), i6 n_37, v_40, v_45, v_50, v_55] 39)] ++ ([(b_5, oc #[v_552, v_557, v_18, v_23, v_28, v_33] 79)] ++ (fp_553 ++ (fp_558 ++ (fp_561 ++ (fp_25 ++ (fp_30 ++ (fp_564 ++ (fp_42 ++ (fp_47 ++ (fp_52 ++ (fp_57 ++ ([(b_76, oc #[i6 Kind_60, i6 A_62, i6 B_64, i6 C_66, v_69, v_72] 30)] ++ L))))))))))))) w ∧ Fr 193 [(0, (pq b_2)), (2, i6 held_74), (4, (pq b_76)), (7, i6 ((nodes_39.length : Int) - 1)), (8, i6 (ix nodes_39 ((nodes_39.length : Int) - 1))), (9, u_90)] a) ?_ ?_
 rintro a w ⟨c_551, c_556, c_560, c_563, v_552, fp_553, v_557, fp_558, fp_561, fp_564, hI, h_554, h_559, h_562, h_565, hS, ha⟩
 refine in_frame ha ?_
 clear ha hV
 have hV := hJ_567 _ hI
 clear hI hJ_567
 refine WC.seq ?_
 refine WC.sr ?_
 refine WL.mv rfl rfl ?_
 obtain ⟨hi_624, hV⟩ := hV
 refine WL.run hS rfl rfl rfl (ex_and rfl rfl hr_75 hi_624) ?_
 refine WL.run hS rfl rfl rfl (ex_gtr rfl rfl) ?_
 refine WL.nx ?_
 refine WC.cond rfl ?_ ?_
 intro hc_715
 replace hV := hV.1 (of_decide_eq_true hc_715)
 refine WC.sr ?_
 refine WL.run hS rfl rfl rfl (ex_fieldAddr (o' := 3) Try.underlying30 rfl Try.sizeOf3 rfl rfl) ?_
 replace hS := hS.f13
 refine WL.run hS rfl rfl rfl (ex_load_box Try.isAgg3 rfl rfl) ?_
 refine WL.mv rfl rfl ?_
 refine WL.call rfl rfl rfl (enters0 (vs := [i6 C_66, i6 ((nodes_39.length : Int) - 1)]) Try.call17 ⟨rfl, rfl, trivial⟩) (S_pick  hr_67 hi_80 hS hV) ?_
 clear hV hS
 rintro _ w ⟨r_626, hV, rfl, hr_627, hS⟩
 refine ⟨_, rfl, ?_⟩
 refine WL.ma rfl rfl ?_
 refine WL.nx ?_
 refine WC.sub (m := [(0, (pq b_2)), (8, i6 (ix nodes_39 ((nodes_39.length : Int) - 1))), (9, u_90), (22, i6 r_626)]) ⟨rfl, rfl, rfl, rfl, trivial⟩ ?_
 replace hS := hS.drop
 refine WC.seq ?_
 refine WC.drawn (σ := [0, 1, 2, 3, 4, 5, 6, 7, 8, 9, 10, 11, 12, 13, 14]) (C := St w0 H ([(b_2, oc #[(pq b_5), i6 n_37, v_40, v_45, v_50, v_55] 39)] ++ ([(b_5, oc #[v_552, v_557, v_18, v_23, v_28, v_33] 79)] ++ (fp_553 ++ (fp_558 ++ (fp_561 ++ (fp_25 ++ (fp_30 ++ (fp_564 ++ (fp_42 ++ (fp_47 ++ (fp_52 ++ (fp_57 ++ L))))))))))))) [[], [0], [0, 1], [0, 1, 2], [], [], [5], [5, 6], [5, 6, 7], [], [5, 6, 7, 8, 9], [5, 6, 7, 8, 9, 10], [4, 5, 6, 7, 8, 9, 10, 11], [0, 1, 2, 3, 4, 5, 6, 7, 8, 9, 10, 11, 12], [0, 1, 2, 3, 4, 5, 6, 7, 8, 9, 10, 11, 12, 13]] [12, 13] Try.mixed (by kernel_rfl) (hS.drawn _) ?_
 clear hS w
 refine Wd.run rfl rfl rfl rfl (fun _ => ex_move rfl) fun q_630 hq_629 => ?_
 refine Wd.run rfl rfl rfl rfl (fun _ => ex_nilCheck rfl) fun q_632 hq_631 => ?_
 refine Wd.run rfl rfl rfl rfl (fun _ => ex_fieldAddr (o' := 0) Try.underlying39 rfl Try.sizeOf36 rfl rfl) fun q_634 hq_633 => ?_
 refine Wd.runb (off := 0) rfl rfl rfl rfl (fun _ _ _ h => ex_load_box Try.isAgg36 rfl h) rfl (fun _ h => h) fun q_636 hq_635 => ?_
 refine Wd.run rfl rfl rfl rfl (fun _ => ex_move rfl) fun q_638 hq_637 => ?_
 refine Wd.run rfl rfl rfl rfl (fun _ => ex_move rfl) fun q_640 hq_639 => ?_
 refine Wd.run rfl rfl rfl rfl (fun _ => ex_nilCheck rfl) fun q_642 hq_641 => ?_
 refine Wd.run rfl rfl rfl rfl (fun _ => ex_fieldAddr (o' := 2) Try.underlying39 rfl Try.sizeOf35 rfl rfl) fun q_644 hq_643 => ?_
 refine Wd.runb (off := 2) rfl rfl rfl rfl (fun _ _ _ h => ex_load_box Try.isAgg35 rfl h) rfl (fun _ h => h) fun q_646 hq_645 => ?_
 refine Wd.run rfl rfl rfl rfl (fun _ => ex_move rfl) fun q_648 hq_647 => ?_
 obtain ⟨hin_651, hV⟩ := hV
 refine Wd.runx rfl rfl rfl rfl (exAll (ex_index_own Try.underlying35 Try.sizeOf32 rfl rfl h_41 hin_651)) ?_
 intro p_652 hp_653
 intro q_650 hq_649
 refine Wd.runs (fp := fp_42) rfl rfl rfl rfl (ex_load_own_s Try.isAgg32 rfl rfl h_41 hp_653 hin_651) (fun _ h => St.f9 h) ?_
 intro u_656 hu_657
 obtain ⟨rfl, hr_658⟩ := cInt_rep hu_657
 replace hr_658 := has_I64 hr_658
 replace hV := hV hr_658
 intro q_655 hq_654
 refine Wd.turn rfl rfl rfl fun w hS => ?_
 refine WL.buildn (c := (cInt .i64)) (xs := [(ix nodes_39 ((nodes_39.length : Int) - 1)), (ix nodes_39 r_626)]) (vs := [i6 (ix nodes_39 ((nodes_39.length : Int) - 1)), i6 (ix nodes_39 r_626)]) rfl Try.underlying35 Try.info32 rfl rfl ⟨rfl, rfl, trivial⟩ rfl ⟨_, _, rfl, (cInt_mk (I64.has hr_86)), ⟨_, _, rfl, (cInt_mk (I64.has hr_658)), rfl⟩⟩ hS rfl ?_
 clear hS
 intro v_660 w fp_661 h_662 hS
 refine WL.nil (DQ.mk2 (C' := St w0 H (fp_661 ++ ([(b_2, oc #[(pq b_5), i6 n_37, v_40, v_45, v_50, v_55] 39)] ++ ([(b_5, oc #[v_552, v_557, v_18, v_23, v_28, v_33] 79)] ++ (fp_553 ++ (fp_558 ++ (fp_561 ++ (fp_25 ++ (fp_30 ++ (fp_564 ++ (fp_42 ++ (fp_47 ++ (fp_52 ++ (fp_57 ++ L)))))))))))))) hS ⟨il, il, il, il, il, il, il, il, .inr (hq_635 H (fp_661 ++ ([(b_5, oc #[v_552, v_557, v_18, v_23, v_28, v_33] 79)] ++ (fp_553 ++ (fp_558 ++ (fp_561 ++ (fp_25 ++ (fp_30 ++ (fp_564 ++ (fp_42 ++ (fp_47 ++ (fp_52 ++ (fp_57 ++ L)))))))))))) #[(pq b_5), i6 n_37, v_40, v_45, v_50, v_55] _ rfl (fun _ h => St.f2 h)), .inr (hq_633 _), .inr (hq_631 _), .inr (hq_629 _), trivial⟩ ?_)
 clear hS w
 refine Wd.turn rfl rfl rfl fun w hS => ?_
 replace hS := hS.f9.f9.f9.f9.f9.f9.f9.f8
 have hL_663 := hS.freeze
 refine WL.call rfl rfl rfl (enters0 (vs := [(pq b_5), v_660]) Try.call47 ⟨rfl, rfl, trivial⟩) (S_Size  (h_554.mono hS.put_le) (h_559.mono hS.put_le) (h_562.mono hS.put_le) (h_24.mono hS.put_le) (h_29.mono hS.put_le) (h_565.mono hS.put_le) (h_662.share hS.put_le) hL_663 hV) ?_
 clear hV
 rintro _ w ⟨r_664, hV, rfl, hr_665, hL_666⟩
 refine ⟨_, rfl, ?_⟩
 have hB_668 := hS.back hL_666
 replace hS := hB_668
 clear hL_666 hL_663 hB_668
 refine WL.nil (DQ.mk2 (C' := St w0 H (fp_661 ++ ([(b_5, oc #[v_552, v_557, v_18, v_23, v_28, v_33] 79)] ++ (fp_553 ++ (fp_558 ++ (fp_561 ++ (fp_25 ++ (fp_30 ++ (fp_564 ++ ([(b_2, oc #[(pq b_5), i6 n_37, v_40, v_45, v_50, v_55] 39)] ++ (fp_42 ++ (fp_47 ++ (fp_52 ++ (fp_57 ++ L)))))))))))))) hS ⟨il, il, il, il, il, il, il, il, il, il, il, il, trivial⟩ ?_)
 clear hS w
 refine Wd.run rfl rfl rfl rfl (fun _ => ex_assign rfl) fun q_670 hq_669 => ?_
 refine Wd.nil fun w hS => ?_
 refine WQ.next ?_
 refine WC.sub (m := [(0, (pq b_2)), (9, u_90), (22, i6 r_626), (23, i6 r_664)]) ⟨rfl, rfl, rfl, rfl, trivial⟩ ?_
 replace hS := hS.drop
 refine WC.seq ?_
 refine WC.drawn (σ := [0, 1, 2, 3, 4, 5, 6, 7, 9, 10, 11, 12, 8, 13, 14]) (C := St w0 H ([(b_5, oc #[v_552, v_557, v_18, v_23, v_28, v_33] 79)] ++ (fp_553 ++ (fp_558 ++ (fp_561 ++ (fp_25 ++ (fp_30 ++ (fp_564 ++ ([(b_2, oc #[(pq b_5), i6 n_37, v_40, v_45, v_50, v_55] 39)] ++ (fp_42 ++ (fp_47 ++ (fp_52 ++ (fp_57 ++ L))))))))))))) [[], [], [1], [1, 2], [1, 2, 3], [], [1, 2, 3, 4, 5], [1, 2, 3, 4, 5, 6], [0, 1, 2, 3, 4, 5, 6, 7], [], [9], [9, 10], [9, 10, 11], [0, 1, 2, 3, 4, 5, 6, 7, 8, 9, 10, 11, 12], [0, 1, 2, 3, 4, 5, 6, 7, 8, 9, 10, 11, 12, 13]] [8, 13] Try.mixed (by kernel_rfl) (hS.drawn _) ?_
 clear hS w
 refine Wd.run rfl rfl rfl rfl (fun _ => ex_move rfl) fun q_672 hq_671 => ?_
 refine Wd.run rfl rfl rfl rfl (fun _ => ex_move rfl) fun q_674 hq_673 => ?_
 refine Wd.run rfl rfl rfl rfl (fun _ => ex_nilCheck rfl) fun q_676 hq_675 => ?_
 refine Wd.run rfl rfl rfl rfl (fun _ => ex_fieldAddr (o' := 3) Try.underlying39 rfl Try.sizeOf37 rfl rfl) fun q_678 hq_677 => ?_
 refine Wd.runb (off := 3) rfl rfl rfl rfl (fun _ _ _ h => ex_load_box Try.isAgg37 rfl h) rfl (fun _ h => St.f8 h) fun q_680 hq_679 => ?_
 refine Wd.run rfl rfl rfl rfl (fun _ => ex_move rfl) fun q_682 hq_681 => ?_
 obtain ⟨hin_685, hV⟩ := hV
 refine Wd.runx rfl rfl rfl rfl (exAll (ex_index_own Try.underlying37 Try.sizeOf28 rfl rfl h_46 hin_685)) ?_
 intro p_686 hp_687
 intro q_684 hq_683
 refine Wd.runs (fp := fp_47) rfl rfl rfl rfl (ex_load_own_s Try.isAgg28 rfl rfl h_46 hp_687 hin_685) (fun _ h => St.f10 h) ?_
 intro u_690 hu_691
 replace hu_691 := cSl_rep hu_691
 intro q_689 hq_688
 refine Wd.run rfl rfl rfl rfl (fun _ => ex_move rfl) fun q_693 hq_692 => ?_
 refine Wd.run rfl rfl rfl rfl (fun _ => ex_nilCheck rfl) fun q_695 hq_694 => ?_
 refine Wd.run rfl rfl rfl rfl (fun _ => ex_fieldAddr (o' := 4) Try.underlying39 rfl Try.sizeOf27 rfl rfl) fun q_697 hq_696 => ?_
 refine Wd.runb (off := 4) rfl rfl rfl rfl (fun _ _ _ h => ex_load_box Try.isAgg27 rfl h) rfl (fun _ h => St.f8 h) fun q_699 hq_698 => ?_
 refine Wd.turn rfl rfl rfl fun w hS => ?_
 refine WL.buildn (c := (cSl cBool)) (xs := [(ix fs_44 ((nodes_39.length : Int) - 1)), (ix fs_44 r_626)]) (vs := [u_90, u_690]) rfl Try.underlying37 Try.info28 rfl rfl ⟨rfl, rfl, trivial⟩ rfl ⟨_, _, rfl, (cSl_mk hu_91), ⟨_, _, rfl, (cSl_mk hu_691), rfl⟩⟩ hS rfl ?_
 clear hS
 intro v_701 w fp_702 h_703 hS
 refine WL.nil (DQ.mk2 (C' := St w0 H (fp_702 ++ ([(b_5, oc #[v_552, v_557, v_18, v_23, v_28, v_33] 79)] ++ (fp_553 ++ (fp_558 ++ (fp_561 ++ (fp_25 ++ (fp_30 ++ (fp_564 ++ ([(b_2, oc #[(pq b_5), i6 n_37, v_40, v_45, v_50, v_55] 39)] ++ (fp_42 ++ (fp_47 ++ (fp_52 ++ (fp_57 ++ L)))))))))))))) hS ⟨.inr (hq_698 H (fp_702 ++ ([(b_5, oc #[v_552, v_557, v_18, v_23, v_28, v_33] 79)] ++ (fp_553 ++ (fp_558 ++ (fp_561 ++ (fp_25 ++ (fp_30 ++ (fp_564 ++ (fp_42 ++ (fp_47 ++ (fp_52 ++ (fp_57 ++ L)))))))))))) #[(pq b_5), i6 n_37, v_40, v_45, v_50, v_55] _ rfl (fun _ h => St.f9 h)), .inr (hq_696 _), .inr (hq_694 _), .inr (hq_692 _), il, il, il, il, il, il, il, il, trivial⟩ ?_)
 clear hS w
 refine Wd.turn rfl rfl rfl fun w hS => ?_
 replace hS := hS.f12.f2
 have hL_704 := hS.freeze
 have hL_705 := hL_704.freeze
 refine WL.call rfl rfl rfl (enters0 (vs := [v_701, v_50]) Try.call23 ⟨rfl, rfl, trivial⟩) (S_rSize  ((h_703.share hS.put_le).mono hL_704.put_le) ((h_51.mono hS.put_le).share hL_704.put_le) hL_705 hV) ?_
 clear hV
 rintro _ w ⟨r_706, hV, rfl, hr_707, hL_708⟩
 refine ⟨_, rfl, ?_⟩
 have hB_710 := hL_704.back hL_708
 have hB_711 := hS.back hB_710
 replace hS := hB_711
 clear hL_708 hL_704 hL_705 hB_710 hB_711
 refine WL.nil (DQ.mk2 (C' := St w0 H (fp_702 ++ (fp_52 ++ ([(b_5, oc #[v_552, v_557, v_18, v_23, v_28, v_33] 79)] ++ (fp_553 ++ (fp_558 ++ (fp_561 ++ (fp_25 ++ (fp_30 ++ (fp_564 ++ ([(b_2, oc #[(pq b_5), i6 n_37, v_40, v_45, v_50, v_55] 39)] ++ (fp_42 ++ (fp_47 ++ (fp_57 ++ L)))))))))))))) hS ⟨il, il, il, il, il, il, il, il, il, il, il, il, trivial⟩ ?_)
 clear hS w
 refine Wd.run rfl rfl rfl rfl (fun _ => ex_assign rfl) fun q_713 hq_712 => ?_
 refine Wd.nil fun w hS => ?_
 refine WQ.next ?_
 refine WC.sub (m := [(23, i6 r_664), (24, i6 r_706)]) ⟨rfl, rfl, trivial⟩ ?_
 replace hS := hS.drop
 refine WC.sr ?_
 refine WL.mv rfl rfl ?_
 refine WL.mv rfl rfl ?_
 refine WL.run hS rfl rfl rfl (ex_eql rfl rfl) ?_
 refine WL.ma rfl rfl ?_
 refine WL.nx ?_
 refine WC.ret ?_
 refine WQ.pass nofun ?_
 replace hS := hS.f12.f2.f12.f12.f11.f11.f11.f11.f11.f11.f11.f12
 exact leave1 rfl rfl ⟨decide (r_664 = r_706), c_551, c_556, c_560, c_563, v_552, fp_553, v_557, fp_558, fp_561, fp_564, hV, rfl, h_554, h_559, h_562, h_565, hS⟩
 intro hc_715
 replace hV := hV.2 (of_decide_eq_false hc_715)
 refine WC.skip ?_
 refine WQ.next ?_
 replace hS := hS.f13.drop
 refine WC.sr ?_
 refine WL.ma rfl rfl ?_
 refine WL.nx ?_
 refine WC.ret ?_
 replace hS := hS.f12.f12.f12.f12.f12.f12.f12.f12.f12.f12.f12.f12
 exact leave1 rfl rfl ⟨true, c_551, c_556, c_560, c_563, v_552, fp_553, v_557, fp_558, fp_561, fp_564, hV, rfl, h_554, h_559, h_562, h_565, hS⟩
 clear hJ_567
 refine WC.sr ?_
 refine WL.mv rfl rfl ?_
 obtain ⟨hi_568, hV⟩ := hV
 refine WL.run hS rfl rfl rfl (ex_and rfl rfl hr_75 hi_568) ?_
 refine WL.run hS rfl rfl rfl (ex_gtr rfl rfl) ?_
 refine WL.nx ?_
 refine WC.cond rfl ?_ ?_
 intro hc_623
 replace hV := hV.1 (of_decide_eq_true hc_623)
 refine WC.sr ?_
 refine WL.mv rfl rfl ?_
 refine WL.run hS rfl rfl rfl (ex_nilCheck rfl) ?_
 refine WL.run hS rfl rfl rfl (ex_fieldAddr (o' := 0) Try.underlying39 rfl Try.sizeOf36 rfl rfl) ?_
 refine WL.run hS rfl rfl rfl (ex_load_box Try.isAgg36 rfl rfl) ?_
 refine WL.mv rfl rfl ?_
 replace hS := hS.f8.f8.f8.f8.f8.f8.f8
 refine WL.call rfl rfl rfl (enters0 (vs := [(pq b_5), i6 (ix nodes_39 ((nodes_39.length : Int) - 1))]) Try.call42 ⟨rfl, rfl, trivial⟩) (S_Count  h_9 h_14 h_19 h_24 h_29 h_34 hr_86 hS hV) ?_
 clear hV hS
 rintro _ w ⟨r_570, hV, rfl, hr_571, hS⟩
 refine ⟨_, rfl, ?_⟩
 refine WL.ma rfl rfl ?_
 refine WL.nx ?_
 refine WC.sr ?_
 refine WL.mv rfl rfl ?_
 refine WL.call rfl rfl rfl (enters0 (vs := [u_90]) Try.call43 ⟨rfl, trivial⟩) (S_rCount  hu_91 hS hV) ?_
 clear hV hS
 rintro _ w ⟨r_573, hV, rfl, hr_574, hS⟩
 refine ⟨_, rfl, ?_⟩
 refine WL.ma rfl rfl ?_
 refine WL.nx ?_
 refine WC.sub (m := [(0, (pq b_2)), (2, i6 held_74), (4, (pq b_76)), (7, i6 ((nodes_39.length : Int) - 1)), (8, i6 (ix nodes_39 ((nodes_39.length : Int) - 1))), (9, u_90), (15, i6 r_570), (16, i6 r_573)]) ⟨rfl, rfl, rfl, rfl, rfl, rfl, rfl, rfl, trivial⟩ ?_
 refine WC.sr ?_
 refine WL.mv rfl rfl ?_
 refine WL.run hS rfl rfl rfl (ex_nilCheck rfl) ?_
 refine WL.run hS rfl rfl rfl (ex_fieldAddr (o' := 0) Try.underlying39 rfl Try.sizeOf36 rfl rfl) ?_
 replace hS := hS.f8
 refine WL.run hS rfl rfl rfl (ex_load_box Try.isAgg36 rfl rfl) ?_
 refine WL.mv rfl rfl ?_
 replace hS := hS.f8.f8.f8.f8.f8.f8.f8
 refine WL.call rfl rfl rfl (enters0 (vs := [(pq b_5), i6 (ix nodes_39 ((nodes_39.length : Int) - 1))]) Try.call44 ⟨rfl, rfl, trivial⟩) (S_First  h_9 h_14 h_19 h_24 h_29 h_34 hr_86 hS hV) ?_
 clear hV hS
 rintro _ w ⟨r_576, r_581, c_582, c_586, m_590, m_593, v_577, fp_578, v_583, fp_584, v_587, fp_588, fp_591, fp_594, hV, rfl, h_579, h_585, h_589, h_592, h_595, hS⟩
 refine ⟨_, rfl, ?_⟩
 refine WL.mv rfl rfl ?_
 refine WL.run hS rfl rfl rfl (ex_extract rfl rfl) ?_
 refine WL.run hS rfl rfl rfl (ex_extract rfl rfl) ?_
 refine WL.ma rfl rfl ?_
 refine WL.ma rfl rfl ?_
 refine WL.nx ?_
 refine WC.sr ?_
 refine WL.mv rfl rfl ?_
 refine WL.run hS rfl rfl rfl (ex_nilCheck rfl) ?_
 refine WL.run hS rfl rfl rfl (ex_fieldAddr (o' := 1) Try.underlying39 rfl Try.sizeOf3 rfl rfl) ?_
 replace hS := hS.f9
 refine WL.run hS rfl rfl rfl (ex_load_box Try.isAgg3 rfl rfl) ?_
 refine WL.mv rfl rfl ?_
 refine WL.call rfl rfl rfl (enters0 (vs := [i6 n_37, u_90]) Try.call45 ⟨rfl, rfl, trivial⟩) (S_rFirst  hr_38 hu_91 hS hV) ?_
 clear hV hS
 rintro _ w ⟨r_599, r_604, v_600, fp_601, hV, rfl, h_602, hS⟩
 refine ⟨_, rfl, ?_⟩
 refine WL.mv rfl rfl ?_
 refine WL.run hS rfl rfl rfl (ex_extract rfl rfl) ?_
 refine WL.run hS rfl rfl rfl (ex_extract rfl rfl) ?_
 refine WL.ma rfl rfl ?_
 refine WL.ma rfl rfl ?_
 refine WL.nx ?_
 refine WC.sub (m := [(0, (pq b_2)), (2, i6 held_74), (4, (pq b_76)), (7, i6 ((nodes_39.length : Int) - 1)), (8, i6 (ix nodes_39 ((nodes_39.length : Int) - 1))), (9, u_90), (15, i6 r_570), (16, i6 r_573), (17, v_577), (18, .bool r_581), (19, v_600), (20, .bool r_604)]) ⟨rfl, rfl, rfl, rfl, rfl, rfl, rfl, rfl, rfl, rfl, rfl, rfl, trivial⟩ ?_
 refine WC.sr ?_
 refine WL.mv rfl rfl ?_
 refine WL.mv rfl rfl ?_
 replace hS := hS.f3
 have hL_606 := hS.freeze
 have hL_607 := hL_606.freeze
 refine WL.call rfl rfl rfl (enters0 (vs := [v_577, v_600]) Try.call46 ⟨rfl, rfl, trivial⟩) (S_sameTruths  ((h_579.share hS.put_le).mono hL_606.put_le) ((h_602.mono hS.put_le).share hL_606.put_le) hL_607 hV) ?_
 clear hV
 rintro _ w ⟨r_608, hV, rfl, hL_609⟩
 refine ⟨_, rfl, ?_⟩
 have hB_611 := hL_606.back hL_609
 have hB_612 := hS.back hB_611
 replace hS := hB_612
 clear hL_609 hL_606 hL_607 hB_611 hB_612
 refine WL.ma rfl rfl ?_
 refine WL.nx ?_
 replace hS := hS.drop
 replace hS := hS.drop
 obtain ⟨J_617, hJ_618, hV⟩ := hV
 refine WC.meet (fun a w => ∃ (x_616 : Bool), J_617 x_616 ∧ St w0 H ([(b_2, oc #[(pq b_5), i6 n_37, v_40, v_45, v_50, v_55] 39)] ++ ([(b_5, oc #[v_583, v_587, v_18, v_23, v_28, v_33] 79)] ++ (fp_584 ++ (fp_588 ++ (fp_591 ++ (fp_25 ++ (fp_30 ++ (fp_594 ++ (fp_42 ++ (fp_47 ++ (fp_52 ++ (fp_57 ++ ([(b_76, oc #[i6 Kind_60, i6 A_62, i6 B_64, i6 C_66, v_69, v_72] 30)] ++ L))))))))))))) w ∧ Fr 193 [(0, (pq b_2)), (2, i6 held_74), (4, (pq b_76)), (7, i6 ((nodes_39.length : Int) - 1)), (8, i6 (ix nodes_39 ((nodes_39.length : Int) - 1))), (9, u_90), (154, .bool x_616)] a) ?_ ?_
 rintro a w ⟨x_616, hI, hS, ha⟩
 refine in_frame ha ?_
 clear ha hV
 have hV := hJ_618 _ hI
 clear hI hJ_618
 refine WC.cond rfl ?_ ?_
 intro hc_622
 replace hV := hV.1 hc_622
 refine WC.sr ?_
 refine WL.ma rfl rfl ?_
 refine WL.nx ?_
 replace hS := hS.f13.drop
 refine WC.ret ?_
 refine WQ.pass nofun ?_
 replace hS := hS.f12.f12.f12.f12.f12.f12.f12.f12.f12.f12.f12.f12
 exact leave1 rfl rfl ⟨false, c_582, c_586, m_590, m_593, v_583, fp_584, v_587, fp_588, fp_591, fp_594, hV, rfl, h_585, h_589, h_592, h_595, hS⟩
 intro hc_622
 replace hV := hV.2 hc_622
 refine WC.skip ?_
 replace hS := hS.f13.f13.f13.f13.f13.f13.f13.f13.f13.f13.f13.f13.f13
 exact WQ.there fun a ha => ⟨c_582, c_586, m_590, m_593, v_583, fp_584, v_587, fp_588, fp_591, fp_594, hV, h_585, h_589, h_592, h_595, hS, ha.of_sub ⟨rfl, rfl, rfl, rfl, rfl, rfl, trivial⟩⟩
 clear hJ_618
 refine WC.region ?_
 refine WL.mv rfl rfl ?_
 refine WL.mv rfl rfl ?_
 refine WL.run hS rfl rfl rfl (ex_neq rfl rfl) ?_
 refine WL.mv rfl rfl ?_
 rcases Bool.eq_false_or_eq_true (decide (r_570 ≠ r_573)) with hg_620 | hg_620
 replace hV := hV.1 (of_decide_eq_true hg_620)
 refine WL.skip_g rfl rfl rfl hg_620 rfl rfl ?_
 refine WL.skip_g rfl rfl rfl hg_620 rfl rfl ?_
 refine WL.skip_g rfl rfl rfl hg_620 rfl rfl ?_
 refine WL.run hS rfl rfl rfl (ex_pick_t rfl hg_620 rfl) ?_
 refine WL.mv rfl rfl ?_
 refine WL.skip_g rfl rfl rfl rfl rfl rfl ?_
 refine WL.skip_g rfl rfl rfl rfl rfl rfl ?_
 refine WL.run hS rfl rfl rfl (ex_pick_t rfl rfl rfl) ?_
 refine WL.nil ?_
 replace hS := hS.f13.f13.f13.f13.f13.f13.f13.f13.f13.f13.f13.f13.f13
 exact WQ.there fun a ha => ⟨true, hV, hS, ha.of_sub ⟨rfl, rfl, rfl, rfl, rfl, rfl, rfl, trivial⟩⟩
 replace hV := hV.2 (of_decide_eq_false hg_620)
 refine WL.unguard rfl rfl hg_620 ?_
 refine WL.mv rfl rfl ?_
 refine WL.unguard rfl rfl hg_620 ?_
 refine WL.mv rfl rfl ?_
 refine WL.unguard rfl rfl hg_620 ?_
 refine WL.run hS rfl rfl rfl (ex_bneq Try.underlying4 rfl rfl) ?_
 refine WL.run hS rfl rfl rfl (ex_pick_f rfl hg_620 rfl) ?_
 refine WL.mv rfl rfl ?_
 rcases Bool.eq_false_or_eq_true (!(r_581 == r_604)) with hg_621 | hg_621
 replace hV := hV.1 hg_621
 refine WL.skip_g rfl rfl rfl hg_621 rfl rfl ?_
 refine WL.skip_g rfl rfl rfl hg_621 rfl rfl ?_
 refine WL.run hS rfl rfl rfl (ex_pick_t rfl hg_621 rfl) ?_
 refine WL.nil ?_
 replace hS := hS.f13.f13.f13.f13.f13.f13.f13.f13.f13.f13.f13.f13.f13
 exact WQ.there fun a ha => ⟨true, hV, hS, ha.of_sub ⟨rfl, rfl, rfl, rfl, rfl, rfl, rfl, trivial⟩⟩
 replace hV := hV.2 hg_621
 refine WL.unguard rfl rfl hg_621 ?_
 refine WL.mv rfl rfl ?_
 refine WL.unguard rfl rfl hg_621 ?_
 refine WL.run hS rfl rfl rfl (ex_not rfl) ?_
 refine WL.run hS rfl rfl rfl (ex_pick_f rfl hg_621 rfl) ?_
 refine WL.nil ?_
 replace hS := hS.f13.f13.f13.f13.f13.f13.f13.f13.f13.f13.f13.f13.f13
 exact WQ.there fun a ha => ⟨(!r_608), hV, hS, ha.of_sub ⟨rfl, rfl, rfl, rfl, rfl, rfl, rfl, trivial⟩⟩
 intro hc_623
 replace hV := hV.2 (of_decide_eq_false hc_623)
 refine WC.skip ?_
 replace hS := hS.f13.f13.f13.f13.f13.f13.f13.f13.f13.f13.f13.f13.f13
 exact WQ.there fun a ha => ⟨nodes_7, free_12, xby_17, memo_32, v_8, fp_10, v_13, fp_15, fp_20, fp_35, hV, h_9, h_14, h_19, h_34, hS, ha.of_sub ⟨rfl, rfl, rfl, rfl, rfl, rfl, trivial⟩⟩
 clear hJ_293
 refine WC.sr ?_
 refine WL.mv rfl rfl ?_
 obtain ⟨hi_294, hV⟩ := hV
 refine WL.run hS rfl rfl rfl (ex_and rfl rfl hr_75 hi_294) ?_
 refine WL.run hS rfl rfl rfl (ex_gtr rfl rfl) ?_
 refine WL.nx ?_
 refine WC.cond rfl ?_ ?_
 intro hc_493
 replace hV := hV.1 (of_decide_eq_true hc_493)
 refine WC.sr ?_
 refine WL.ma rfl rfl ?_
 refine WL.nx ?_
 refine WC.sub (m := [(0, (pq b_2)), (2, i6 held_74), (4, (pq b_76)), (7, i6 ((nodes_39.length : Int) - 1)), (8, i6 (ix nodes_39 ((nodes_39.length : Int) - 1))), (9, u_90), (10, i6 0)]) ⟨rfl, rfl, rfl, rfl, rfl, rfl, rfl, trivial⟩ ?_
 refine WC.seq ?_
 refine WC.sr ?_
 refine WL.ma rfl rfl ?_
 refine WL.nx ?_
 refine WC.block ?_
 replace hS := hS.f4.f13.f13.f4.f6.f13.f13.f13.f13.f13.f13.f13.f13
 obtain ⟨I_368, mu_369, hI_492, hV⟩ := hV
 refine WC.loop (σ := Int × Int) (fun s a w => ∃ (xat_330 : Int) (i_332 : Int), s = (xat_330, i_332) ∧ I_368 (xat_330, i_332) ∧ I64 xat_330 ∧ I64 i_332 ∧ St w0 H ([(b_2, oc #[(pq b_5), i6 n_37, v_40, v_45, v_50, v_55] 39)] ++ ([(b_5, oc #[v_8, v_13, v_18, v_23, v_28, v_33] 79)] ++ (fp_10 ++ (fp_15 ++ (fp_20 ++ (fp_25 ++ (fp_30 ++ (fp_35 ++ (fp_42 ++ (fp_47 ++ (fp_52 ++ (fp_57 ++ ([(b_76, oc #[i6 Kind_60, i6 A_62, i6 B_64, i6 C_66, v_69, v_72] 30)] ++ L))))))))))))) w ∧ Fr 193 [(0, (pq b_2)), (2, i6 held_74), (4, (pq b_76)), (7, i6 ((nodes_39.length : Int) - 1)), (8, i6 (ix nodes_39 ((nodes_39.length : Int) - 1))), (9, u_90), (10, i6 xat_330), (11, i6 i_332)] a) mu_369 (0, 0) ?_ ?_
 exact fun a ha => ⟨0, 0, rfl, hI_492, (by unfold I64; omega), (by unfold I64; omega), hS, ha.of_sub ⟨rfl, rfl, rfl, rfl, rfl, rfl, rfl, rfl, trivial⟩⟩
 clear hS hI_492
 rintro _ a w ⟨xat_330, i_332, rfl, hI, hr_331, hr_333, hS, ha⟩
 refine in_frame ha ?_
 clear ha
 replace hV := hV _ hI
 clear hI
 refine WC.seq ?_
 obtain ⟨J_376, hJ_377, hV⟩ := hV
 refine WC.meet (fun a w => ∃ (x_375 : Bool), J_376 x_375 ∧ St w0 H ([(b_2, oc #[(pq b_5), i6 n_37, v_40, v_45, v_50, v_55] 39)] ++ ([(b_5, oc #[v_8, v_13, v_18, v_23, v_28, v_33] 79)] ++ (fp_10 ++ (fp_15 ++ (fp_20 ++ (fp_25 ++ (fp_30 ++ (fp_35 ++ (fp_42 ++ (fp_47 ++ (fp_52 ++ (fp_57 ++ ([(b_76, oc #[i6 Kind_60, i6 A_62, i6 B_64, i6 C_66, v_69, v_72] 30)] ++ L))))))))))))) w ∧ Fr 193 [(0, (pq b_2)), (2, i6 held_74), (4, (pq b_76)), (7, i6 ((nodes_39.length : Int) - 1)), (8, i6 (ix nodes_39 ((nodes_39.length : Int) - 1))), (9, u_90), (10, i6 xat_330), (11, i6 i_332), (60, .bool x_375)] a) ?_ ?_
 rintro a w ⟨x_375, hI, hS, ha⟩
 refine in_frame ha ?_
 clear ha hV
 have hV := hJ_377 _ hI
 clear hI hJ_377
 refine WC.cond rfl ?_ ?_
 intro hc_491
 replace hV := hV.1 hc_491
 refine WC.skip ?_
 refine WQ.next ?_
 obtain ⟨J_392, hJ_393, hV⟩ := hV
 refine WC.meet (fun a w => ∃ (xat_390 : Int), J_392 xat_390 ∧ I64 xat_390 ∧ St w0 H ([(b_2, oc #[(pq b_5), i6 n_37, v_40, v_45, v_50, v_55] 39)] ++ ([(b_5, oc #[v_8, v_13, v_18, v_23, v_28, v_33] 79)] ++ (fp_10 ++ (fp_15 ++ (fp_20 ++ (fp_25 ++ (fp_30 ++ (fp_35 ++ (fp_42 ++ (fp_47 ++ (fp_52 ++ (fp_57 ++ ([(b_76, oc #[i6 Kind_60, i6 A_62, i6 B_64, i6 C_66, v_69, v_72] 30)] ++ L))))))))))))) w ∧ Fr 193 [(0, (pq b_2)), (2, i6 held_74), (4, (pq b_76)), (7, i6 ((nodes_39.length : Int) - 1)), (8, i6 (ix nodes_39 ((nodes_39.length : Int) - 1))), (9, u_90), (10, i6 xat_390), (11, i6 i_332)] a) ?_ ?_
 rintro a w ⟨xat_390, hI, hr_391, hS, ha⟩
 refine in_frame ha ?_
 clear ha hV
 have hV := hJ_393 _ hI
 clear hI hJ_393
 refine WC.region ?_
 refine WL.mv rfl rfl ?_
 obtain ⟨hi_403, hV⟩ := hV
 refine WL.run hS rfl rfl rfl (ex_add rfl rfl hi_403) ?_
 refine WL.ma rfl rfl ?_
 refine WL.nil ?_
 replace hS := hS.f13.f13.f13.f13.f13.f13.f13.f13.f13.f13.f13.f13.f13
 exact WQ.there fun a ha => ⟨(xat_390, (i_332 + 1)), ⟨xat_390, (i_332 + 1), rfl, hV.1, hr_391, hi_403, hS, ha.of_sub ⟨rfl, rfl, rfl, rfl, rfl, rfl, rfl, rfl, trivial⟩⟩, hV.2⟩
 clear hJ_393
 refine WC.block ?_
 refine WC.sr ?_
 refine WL.run hS rfl rfl rfl (ex_fieldAddr (o' := 5) Try.underlying30 rfl Try.sizeOf28 rfl rfl) ?_
 replace hS := hS.f13
 refine WL.run hS rfl rfl rfl (ex_load_box Try.isAgg28 rfl rfl) ?_
 refine WL.mv rfl rfl ?_
 obtain ⟨hin_394, hV⟩ := hV
 refine WL.runx hS rfl rfl rfl (ex_index Try.underlying28 Try.sizeOf4 rfl rfl h_73 hin_394) ?_
 intro p_395 hp_396
 refine WL.runx hS rfl rfl rfl (ex_load Try.isAgg4 rfl rfl hp_396) ?_
 intro u_397 hu_398
 obtain rfl := cBool_rep hu_398
 refine WL.nx ?_
 refine WC.cond rfl ?_ ?_
 intro hc_401
 replace hV := hV.1 hc_401
 refine WC.region ?_
 refine WL.mv rfl rfl ?_
 refine WL.mv rfl rfl ?_
 obtain ⟨hi_399, hV⟩ := hV
 refine WL.run hS rfl rfl rfl (ex_shl rfl rfl hi_399) ?_
 obtain ⟨hi_400, hV⟩ := hV
 refine WL.run hS rfl rfl rfl (ex_or rfl rfl hr_331 hi_399.2.2 hi_400) ?_
 refine WL.ma rfl rfl ?_
 refine WL.nil ?_
 refine WQ.out nofun ?_
 replace hS := hS.f13.f13.f13.f13.f13.f13.f13.f13.f13.f13.f13.f13
 exact WQ.there fun a ha => ⟨(nat2 (· ||| ·) xat_330 ((1 : Int) * 2 ^ i_332.toNat)), hV, (nat2_or_I64 hr_331 hi_399.2.2), hS, ha.of_sub ⟨rfl, rfl, rfl, rfl, rfl, rfl, rfl, rfl, trivial⟩⟩
 intro hc_401
 replace hV := hV.2 hc_401
 refine WC.skip ?_
 refine WQ.out nofun ?_
 replace hS := hS.f13.f13.f13.f13.f13.f13.f13.f13.f13.f13.f13.f13
 exact WQ.there fun a ha => ⟨xat_330, hV, hr_331, hS, ha.of_sub ⟨rfl, rfl, rfl, rfl, rfl, rfl, rfl, rfl, trivial⟩⟩
 intro hc_491
 replace hV := hV.2 hc_491
 refine WC.exit ?_
 refine WQ.pass nofun ?_
 refine WQ.pass nofun ?_
 refine WQ.hit ?_
 refine WQ.next ?_
 refine WC.seq ?_
 refine WC.drawn (σ := [0, 1, 2, 3, 4, 5, 6, 7, 8]) (C := St w0 H ([(b_2, oc #[(pq b_5), i6 n_37, v_40, v_45, v_50, v_55] 39)] ++ ([(b_5, oc #[v_8, v_13, v_18, v_23, v_28, v_33] 79)] ++ (fp_10 ++ (fp_15 ++ (fp_20 ++ (fp_25 ++ (fp_30 ++ (fp_35 ++ (fp_42 ++ (fp_47 ++ (fp_52 ++ (fp_57 ++ ([(b_76, oc #[i6 Kind_60, i6 A_62, i6 B_64, i6 C_66, v_69, v_72] 30)] ++ L)))))))))))))) [[], [0], [0, 1], [0, 1, 2], [], [], [5], [0, 1, 2, 3, 4, 5, 6], [0, 1, 2, 3, 4, 5, 6, 7]] [7] Try.mixed (by kernel_rfl) (hS.drawn _) ?_
 clear hS w
 refine Wd.run rfl rfl rfl rfl (fun _ => ex_move rfl) fun q_405 hq_404 => ?_
 refine Wd.run rfl rfl rfl rfl (fun _ => ex_nilCheck rfl) fun q_407 hq_406 => ?_
 refine Wd.run rfl rfl rfl rfl (fun _ => ex_fieldAddr (o' := 0) Try.underlying39 rfl Try.sizeOf36 rfl rfl) fun q_409 hq_408 => ?_
 refine Wd.runb (off := 0) rfl rfl rfl rfl (fun _ _ _ h => ex_load_box Try.isAgg36 rfl h) rfl (fun _ h => h) fun q_411 hq_410 => ?_
 refine Wd.run rfl rfl rfl rfl (fun _ => ex_move rfl) fun q_413 hq_412 => ?_
 refine Wd.run rfl rfl rfl rfl (fun _ => ex_fieldAddr (o' := 5) Try.underlying30 rfl Try.sizeOf28 rfl rfl) fun q_415 hq_414 => ?_
 refine Wd.runb (off := 5) rfl rfl rfl rfl (fun _ _ _ h => ex_load_box Try.isAgg28 rfl h) rfl (fun _ h => St.f13 h) fun q_417 hq_416 => ?_
 refine Wd.turn rfl rfl rfl fun w hS => ?_
 replace hS := hS.f8.f8.f8.f8.f8.f8.f8
 refine WL.call rfl rfl rfl (enters0 (vs := [(pq b_5), i6 (ix nodes_39 ((nodes_39.length : Int) - 1)), v_72]) Try.call40 ⟨rfl, rfl, rfl, trivial⟩) (S_Eval  h_9 h_14 h_19 h_24 h_29 h_34 hr_86 h_73 hS hV) ?_
 clear hV hS
 rintro _ w ⟨r_418, hV, rfl, hS⟩
 refine ⟨_, rfl, ?_⟩
 refine WL.nil (DQ.mk2 (C' := St w0 H ([(b_5, oc #[v_8, v_13, v_18, v_23, v_28, v_33] 79)] ++ (fp_10 ++ (fp_15 ++ (fp_20 ++ (fp_25 ++ (fp_30 ++ (fp_35 ++ ([(b_2, oc #[(pq b_5), i6 n_37, v_40, v_45, v_50, v_55] 39)] ++ (fp_42 ++ (fp_47 ++ (fp_52 ++ (fp_57 ++ ([(b_76, oc #[i6 Kind_60, i6 A_62, i6 B_64, i6 C_66, v_69, v_72] 30)] ++ L)))))))))))))) hS ⟨il, il, il, il, il, il, il, trivial⟩ ?_)
 clear hS w
 refine Wd.run rfl rfl rfl rfl (fun _ => ex_assign rfl) fun q_421 hq_420 => ?_
 refine Wd.nil fun w hS => ?_
 refine WQ.next ?_
 refine WC.sub (m := [(0, (pq b_2)), (2, i6 held_74), (4, (pq b_76)), (7, i6 ((nodes_39.length : Int) - 1)), (8, i6 (ix nodes_39 ((nodes_39.length : Int) - 1))), (9, u_90), (10, i6 xat_330), (12, .bool r_418)]) ⟨rfl, rfl, rfl, rfl, rfl, rfl, rfl, rfl, trivial⟩ ?_
 refine WC.seq ?_
 refine WC.sr ?_
 refine WL.mv rfl rfl ?_
 refine WL.mv rfl rfl ?_
 refine WL.mv rfl rfl ?_
 obtain ⟨hin_422, hV⟩ := hV
 refine WL.runx hS rfl rfl rfl (ex_index Try.underlying28 Try.sizeOf4 rfl rfl hu_91 hin_422) ?_
 intro p_423 hp_424
 refine WL.runx hS rfl rfl rfl (ex_load Try.isAgg4 rfl rfl hp_424) ?_
 intro u_425 hu_426
 obtain rfl := cBool_rep hu_426
 refine WL.run hS rfl rfl rfl (ex_bneq Try.underlying4 rfl rfl) ?_
 refine WL.nx ?_
 refine WC.cond rfl ?_ ?_
 intro hc_490
 replace hV := hV.1 hc_490
 refine WC.sr ?_
 refine WL.ma rfl rfl ?_
 refine WL.nx ?_
 refine WC.sub (m := [(6, .bool false)]) ⟨rfl, trivial⟩ ?_
 replace hS := hS.f13.drop
 refine WC.ret ?_
 refine WQ.pass nofun ?_
 refine WQ.pass nofun ?_
 replace hS := hS.f12.f12.f12.f12.f11.f11.f11.f11.f11.f11.f11.f12
 exact leave1 rfl rfl ⟨false, nodes_7, free_12, xby_17, memo_32, v_8, fp_10, v_13, fp_15, fp_20, fp_35, hV, rfl, h_9, h_14, h_19, h_34, hS⟩
 intro hc_490
 replace hV := hV.2 hc_490
 refine WC.skip ?_
 refine WQ.next ?_
 refine WC.sr ?_
 refine WL.ma rfl rfl ?_
 refine WL.nx ?_
 refine WC.block ?_
 replace hS := hS.f13.f13.f13.f13.f13.f12.f12.f12.f12.f12.f12.f12.f13
 obtain ⟨I_467, mu_468, hI_489, hV⟩ := hV
 refine WC.loop (σ := Int) (fun s a w => ∃ (i_446 : Int), s = i_446 ∧ I_467 i_446 ∧ I64 i_446 ∧ St w0 H ([(b_2, oc #[(pq b_5), i6 n_37, v_40, v_45, v_50, v_55] 39)] ++ ([(b_5, oc #[v_8, v_13, v_18, v_23, v_28, v_33] 79)] ++ (fp_10 ++ (fp_15 ++ (fp_20 ++ (fp_25 ++ (fp_30 ++ (fp_35 ++ (fp_42 ++ (fp_47 ++ (fp_52 ++ (fp_57 ++ ([(b_76, oc #[i6 Kind_60, i6 A_62, i6 B_64, i6 C_66, v_69, v_72] 30)] ++ L))))))))))))) w ∧ Fr 193 [(0, (pq b_2)), (2, i6 held_74), (4, (pq b_76)), (7, i6 ((nodes_39.length : Int) - 1)), (8, i6 (ix nodes_39 ((nodes_39.length : Int) - 1))), (9, u_90), (13, i6 i_446)] a) mu_468 0 ?_ ?_
 exact fun a ha => ⟨0, rfl, hI_489, (by unfold I64; omega), hS, ha.of_sub ⟨rfl, rfl, rfl, rfl, rfl, rfl, rfl, trivial⟩⟩
 clear hS hI_489
 rintro i_446 a w ⟨_, rfl, hI, hr_447, hS, ha⟩
 refine in_frame ha ?_
 clear ha
 replace hV := hV _ hI
 clear hI
 refine WC.seq ?_
 refine WC.sr ?_
 refine WL.mv rfl rfl ?_
 refine WL.mv rfl rfl ?_
 refine WL.run hS rfl rfl rfl (ex_lss rfl rfl) ?_
 refine WL.nx ?_
 refine WC.cond rfl ?_ ?_
 intro hc_488
 replace hV := hV.1 (of_decide_eq_true hc_488)
 refine WC.skip ?_
 refine WQ.next ?_
 refine WC.seq ?_
 refine WC.block ?_
 refine WC.sr ?_
 refine WL.mv rfl rfl ?_
 refine WL.run hS rfl rfl rfl (ex_nilCheck rfl) ?_
 refine WL.run hS rfl rfl rfl (ex_fieldAddr (o' := 3) Try.underlying39 rfl Try.sizeOf37 rfl rfl) ?_
 refine WL.run hS rfl rfl rfl (ex_load_box Try.isAgg37 rfl rfl) ?_
 refine WL.mv rfl rfl ?_
 obtain ⟨hin_471, hV⟩ := hV
 refine WL.runx hS rfl rfl rfl (ex_index_own Try.underlying37 Try.sizeOf28 rfl rfl h_46 hin_471) ?_
 intro p_472 hp_473
 replace hS := hS.f10
 refine WL.runx hS rfl rfl rfl (exNow (H := H) (L := [(b_2, oc #[(pq b_5), i6 n_37, v_40, v_45, v_50, v_55] 39)] ++ ([(b_5, oc #[v_8, v_13, v_18, v_23, v_28, v_33] 79)] ++ (fp_10 ++ (fp_15 ++ (fp_20 ++ (fp_25 ++ (fp_30 ++ (fp_35 ++ (fp_42 ++ (fp_52 ++ (fp_57 ++ ([(b_76, oc #[i6 Kind_60, i6 A_62, i6 B_64, i6 C_66, v_69, v_72] 30)] ++ L)))))))))))) (ex_load_own_s Try.isAgg28 rfl rfl h_46 hp_473 hin_471)) ?_
 intro u_474 hu_475
 replace hu_475 := cSl_rep hu_475
 refine WL.mv rfl rfl ?_
 refine WL.call rfl rfl rfl (enters0 (vs := [u_474, u_90]) Try.call41 ⟨rfl, rfl, trivial⟩) (S_rSame  hu_475 hu_91 hS hV) ?_
 clear hV hS
 rintro _ w ⟨r_476, hV, rfl, hS⟩
 refine ⟨_, rfl, ?_⟩
 refine WL.ma rfl rfl ?_
 refine WL.nx ?_
 refine WC.sub (m := [(0, (pq b_2)), (2, i6 held_74), (4, (pq b_76)), (7, i6 ((nodes_39.length : Int) - 1)), (8, i6 (ix nodes_39 ((nodes_39.length : Int) - 1))), (9, u_90), (13, i6 i_446), (14, .bool r_476)]) ⟨rfl, rfl, rfl, rfl, rfl, rfl, rfl, rfl, trivial⟩ ?_
 refine WC.sr ?_
 refine WL.mv rfl rfl ?_
 refine WL.mv rfl rfl ?_
 refine WL.run hS rfl rfl rfl (ex_nilCheck rfl) ?_
 refine WL.run hS rfl rfl rfl (ex_fieldAddr (o' := 2) Try.underlying39 rfl Try.sizeOf35 rfl rfl) ?_
 replace hS := hS.f2
 refine WL.run hS rfl rfl rfl (ex_load_box Try.isAgg35 rfl rfl) ?_
 refine WL.mv rfl rfl ?_
 obtain ⟨hin_478, hV⟩ := hV
 refine WL.runx hS rfl rfl rfl (ex_index_own Try.underlying35 Try.sizeOf32 rfl rfl h_41 hin_478) ?_
 intro p_479 hp_480
 replace hS := hS.f10
 refine WL.runx hS rfl rfl rfl (exNow (H := H) (L := [(b_2, oc #[(pq b_5), i6 n_37, v_40, v_45, v_50, v_55] 39)] ++ (fp_47 ++ ([(b_5, oc #[v_8, v_13, v_18, v_23, v_28, v_33] 79)] ++ (fp_10 ++ (fp_15 ++ (fp_20 ++ (fp_25 ++ (fp_30 ++ (fp_35 ++ (fp_52 ++ (fp_57 ++ ([(b_76, oc #[i6 Kind_60, i6 A_62, i6 B_64, i6 C_66, v_69, v_72] 30)] ++ L)))))))))))) (ex_load_own_s Try.isAgg32 rfl rfl h_41 hp_480 hin_478)) ?_
 intro u_481 hu_482
 obtain ⟨rfl, hr_483⟩ := cInt_rep hu_482
 replace hr_483 := has_I64 hr_483
 replace hV := hV hr_483
 refine WL.mv rfl rfl ?_
 refine WL.run hS rfl rfl rfl (ex_eql rfl rfl) ?_
 refine WL.run hS rfl rfl rfl (ex_bneq Try.underlying4 rfl rfl) ?_
 refine WL.nx ?_
 refine WC.sub (m := [(0, (pq b_2)), (2, i6 held_74), (4, (pq b_76)), (7, i6 ((nodes_39.length : Int) - 1)), (8, i6 (ix nodes_39 ((nodes_39.length : Int) - 1))), (9, u_90), (13, i6 i_446), (110, .bool (!(r_476 == (decide ((ix nodes_39 i_446) = (ix nodes_39 ((nodes_39.length : Int) - 1)))))))]) ⟨rfl, rfl, rfl, rfl, rfl, rfl, rfl, rfl, trivial⟩ ?_
 refine WC.cond rfl ?_ ?_
 intro hc_487
 replace hV := hV.1 hc_487
 refine WC.sr ?_
 refine WL.ma rfl rfl ?_
 refine WL.nx ?_
 replace hS := hS.f13.drop
 refine WC.ret ?_
 refine WQ.out nofun ?_
 refine WQ.pass nofun ?_
 refine WQ.pass nofun ?_
 refine WQ.out nofun ?_
 refine WQ.pass nofun ?_
 replace hS := hS.f12.f12.f5.f4.f12.f12.f12.f12.f12.f12.f12.f12
 exact leave1 rfl rfl ⟨false, nodes_7, free_12, xby_17, memo_32, v_8, fp_10, v_13, fp_15, fp_20, fp_35, hV, rfl, h_9, h_14, h_19, h_34, hS⟩
 intro hc_487
 replace hV := hV.2 hc_487
 refine WC.skip ?_
 refine WQ.out nofun ?_
 refine WQ.next ?_
 refine WC.region ?_
 refine WL.mv rfl rfl ?_
 obtain ⟨hi_486, hV⟩ := hV
 refine WL.run hS rfl rfl rfl (ex_add rfl rfl hi_486) ?_
 refine WL.ma rfl rfl ?_
 refine WL.nil ?_
 replace hS := hS.f13.f13.f13.f6.f5.f13.f13.f13.f13.f13.f13.f13.f13
 exact WQ.there fun a ha => ⟨(i_446 + 1), ⟨(i_446 + 1), rfl, hV.1, hi_486, hS, ha.of_sub ⟨rfl, rfl, rfl, rfl, rfl, rfl, rfl, trivial⟩⟩, hV.2⟩
 intro hc_488
 replace hV := hV.2 (of_decide_eq_false hc_488)
 refine WC.exit ?_
 refine WQ.pass nofun ?_
 refine WQ.pass nofun ?_
 refine WQ.hit ?_
 replace hS := hS.f13.f13.f13.f13.f13.f13.f13.f13.f13.f13.f13.f13.f13
 exact WQ.there fun a ha => ⟨hV, hS, ha.of_sub ⟨rfl, rfl, rfl, rfl, rfl, rfl, trivial⟩⟩
 clear hJ_377
 refine WC.region ?_
 refine WL.mv rfl rfl ?_
 refine WL.mv rfl rfl ?_
 refine WL.run hS rfl rfl rfl (ex_nilCheck rfl) ?_
 refine WL.run hS rfl rfl rfl (ex_fieldAddr (o' := 1) Try.underlying39 rfl Try.sizeOf3 rfl rfl) ?_
 refine WL.run hS rfl rfl rfl (ex_load_box Try.isAgg3 rfl rfl) ?_
 refine WL.run hS rfl rfl rfl (ex_lss rfl rfl) ?_
 refine WL.mv rfl rfl ?_
 rcases Bool.eq_false_or_eq_true (decide (i_332 < n_37)) with hg_379 | hg_379
 replace hV := hV.1 (of_decide_eq_true hg_379)
 refine WL.unguard rfl rfl hg_379 ?_
 refine WL.mv rfl rfl ?_
 refine WL.unguard rfl rfl hg_379 ?_
 refine WL.run hS rfl rfl rfl (ex_fieldAddr (o' := 5) Try.underlying30 rfl Try.sizeOf28 rfl rfl) ?_
 refine WL.unguard rfl rfl hg_379 ?_
 replace hS := hS.f13
 refine WL.run hS rfl rfl rfl (ex_load_box Try.isAgg28 rfl rfl) ?_
 refine WL.unguard rfl rfl hg_379 ?_
 have hl_380 : Len At_71 := h_73.bound
 replace hV := hV hl_380
 refine WL.run hS rfl rfl rfl (ex_len_sl Try.underlying28 rfl h_73) ?_
 refine WL.unguard rfl rfl hg_379 ?_
 refine WL.run hS rfl rfl rfl (ex_lss rfl rfl) ?_
 refine WL.run hS rfl rfl rfl (ex_pick_t rfl hg_379 rfl) ?_
 refine WL.nil ?_
 replace hS := hS.f13.f13.f13.f13.f13.f13.f13.f13.f13.f13.f13.f13
 exact WQ.there fun a ha => ⟨decide (i_332 < (At_71.length : Int)), hV, hS, ha.of_sub ⟨rfl, rfl, rfl, rfl, rfl, rfl, rfl, rfl, rfl, trivial⟩⟩
 replace hV := hV.2 (of_decide_eq_false hg_379)
 refine WL.skip_g rfl rfl rfl hg_379 rfl rfl ?_
 refine WL.skip_g rfl rfl rfl hg_379 rfl rfl ?_
 refine WL.skip_g rfl rfl rfl hg_379 rfl rfl ?_
 refine WL.skip_g rfl rfl rfl hg_379 rfl rfl ?_
 refine WL.skip_g rfl rfl rfl hg_379 rfl rfl ?_
 refine WL.run hS rfl rfl rfl (ex_pick_f rfl hg_379 rfl) ?_
 refine WL.nil ?_
 replace hS := hS.f13.f13.f13.f13.f13.f13.f13.f13.f13.f13.f13.f13.f13
 exact WQ.there fun a ha => ⟨false, hV, hS, ha.of_sub ⟨rfl, rfl, rfl, rfl, rfl, rfl, rfl, rfl, rfl, trivial⟩⟩
 intro hc_493
 replace hV := hV.2 (of_decide_eq_false hc_493)
 refine WC.skip ?_
 replace hS := hS.f4.f13.f13.f4.f6.f13.f13.f13.f13.f13.f13.f13.f13
 exact WQ.there fun a ha => ⟨hV, hS, ha.of_sub ⟨rfl, rfl, rfl, rfl, rfl, rfl, trivial⟩⟩

theorem S_whole {w0 : World} {H : View} {L : Seg} {w : World} {b_2 : Nat} {b_5 : Nat} {v_8 : Value} {nodes_7 : N3} {fp_10 : Seg} {v_13 : Value} {free_12 : LI} {fp_15 : Seg} {v_18 : Value} {xby_17 : M3} {fp_20 : Seg} {v_23 : Value} {order_22 : LI} {fp_25 : Seg} {v_28 : Value} {level_27 : LI} {fp_30 : Seg} {v_33 : Value} {memo_32 : M3} {fp_35 : Seg} {n_37 : Int} {v_40 : Value} {nodes_39 : LI} {fp_42 : Seg} {v_45 : Value} {fs_44 : B2} {fp_47 : Seg} {v_50 : Value} {order_49 : LI} {fp_52 : Seg} {v_55 : Value} {given_54 : B2} {fp_57 : Seg} {held_59 : Int} {Q : Bool → Prop} (h_9 : OwnSl H (cPair (cInt .i64) (cPair (cInt .i64) (cInt .i64))) 81 v_8 nodes_7 fp_10) (h_14 : OwnSl H (cInt .i64) 32 v_13 free_12 fp_15) (h_19 : OwnMp H kTri (cInt .i64) v_18 xby_17 fp_20) (h_24 : OwnSl H (cInt .i64) 3 v_23 order_22 fp_25) (h_29 : OwnSl H (cInt .i64) 3 v_28 level_27 fp_30) (h_34 : OwnMp H kTri (cInt .i64) v_33 memo_32 fp_35) (hr_38 : I64 n_37) (h_41 : OwnSl H (cInt .i64) 32 v_40 nodes_39 fp_42) (h_46 : OwnSl H (cSl cBool) 28 v_45 fs_44 fp_47) (h_51 : OwnSl H (cInt .i64) 3 v_50 order_49 fp_52) (h_56 : OwnSl H (cSl cBool) 28 v_55 given_54 fp_57) (hr_60 : I64 held_59) (hS : St w0 H ([(b_2, oc #[(pq b_5), i6 n_37, v_40, v_45, v_50, v_55] 39)] ++ ([(b_5, oc #[v_8, v_13, v_18, v_23, v_28, v_33] 79)] ++ (fp_10 ++ (fp_15 ++ (fp_20 ++ (fp_25 ++ (fp_30 ++ (fp_35 ++ (fp_42 ++ (fp_47 ++ (fp_52 ++ (fp_57 ++ L)))))))))))) w) (hV : V_whole nodes_7 free_12 xby_17 order_22 level_27 memo_32 n_37 nodes_39 fs_44 order_49 given_54 held_59 Q) :
 Calls Try.prog 12 #[(pq b_2), i6 held_59] w fun e w' => ∃ (r1 : Bool), Q r1 ∧ e = .returned (.bool r1) ∧ St w0 H ([(b_2, oc #[(pq b_5), i6 n_37, v_40, v_45, v_50, v_55] 39)] ++ ([(b_5, oc #[v_8, v_13, v_18, v_23, v_28, v_33] 79)] ++ (fp_10 ++ (fp_15 ++ (fp_20 ++ (fp_25 ++ (fp_30 ++ (fp_35 ++ (fp_42 ++ (fp_47 ++ (fp_52 ++ (fp_57 ++ L)))))))))))) w' := by
 unfold V_whole at hV
 refine enter Try.func12 rfl Try.ntmps12 rfl (lk_args_cons (d := 0) (v := (pq b_2)) rfl (lk_args_cons (d := 1) (v := i6 held_59) rfl (lk_args_nil _))) ?_
 refine WC.sr ?_
 refine WL.ma rfl rfl ?_
 refine WL.nx ?_
 obtain ⟨J_95, hJ_96, hV⟩ := hV
 refine WC.meet (fun a w => J_95 () ∧ St w0 H ([(b_2, oc #[(pq b_5), i6 n_37, v_40, v_45, v_50, v_55] 39)] ++ ([(b_5, oc #[v_8, v_13, v_18, v_23, v_28, v_33] 79)] ++ (fp_10 ++ (fp_15 ++ (fp_20 ++ (fp_25 ++ (fp_30 ++ (fp_35 ++ (fp_42 ++ (fp_47 ++ (fp_52 ++ (fp_57 ++ L)))))))))))) w ∧ Fr 97 [(0, (pq b_2)), (1, i6 held_59)] a) ?_ ?_
 rintro a w ⟨hI, hS, ha⟩
 refine in_frame ha ?_
 clear ha hV
 have hV := hJ_96 _ hI
 clear hI hJ_96
 refine WC.seq ?_
 refine WC.sr ?_
 refine WL.ma rfl rfl ?_
 refine WL.nx ?_
 refine WC.block ?_
 replace hS := hS.f12.f12.f12.f12.f12.f12.f12.f12.f12.f12.f12.f12
 obtain ⟨I_369, mu_370, hI_490, hV⟩ := hV
 refine WC.loop (σ := Int) (fun s a w => ∃ (i_249 : Int), s = i_249 ∧ I_369 i_249 ∧ I64 i_249 ∧ St w0 H ([(b_2, oc #[(pq b_5), i6 n_37, v_40, v_45, v_50, v_55] 39)] ++ ([(b_5, oc #[v_8, v_13, v_18, v_23, v_28, v_33] 79)] ++ (fp_10 ++ (fp_15 ++ (fp_20 ++ (fp_25 ++ (fp_30 ++ (fp_35 ++ (fp_42 ++ (fp_47 ++ (fp_52 ++ (fp_57 ++ L)))))))))))) w ∧ Fr 97 [(0, (pq b_2)), (1, i6 held_59), (7, i6 i_249)] a) mu_370 0 ?_ ?_
 exact fun a ha => ⟨0, rfl, hI_490, (by unfold I64; omega), hS, ha.of_sub ⟨rfl, rfl, rfl, trivial⟩⟩
 clear hS hI_490
 rintro i_249 a w ⟨_, rfl, hI, hr_250, hS, ha⟩
 refine in_frame ha ?_
 clear ha
 replace hV := hV _ hI
 clear hI
 refine WC.seq ?_
 obtain ⟨J_378, hJ_379, hV⟩ := hV
 refine WC.meet (fun a w => ∃ (x_377 : Bool), J_378 x_377 ∧ St w0 H ([(b_2, oc #[(pq b_5), i6 n_37, v_40, v_45, v_50, v_55] 39)] ++ ([(b_5, oc #[v_8, v_13, v_18, v_23, v_28, v_33] 79)] ++ (fp_10 ++ (fp_15 ++ (fp_20 ++ (fp_25 ++ (fp_30 ++ (fp_35 ++ (fp_42 ++ (fp_47 ++ (fp_52 ++ (fp_57 ++ L)))))))))))) w ∧ Fr 97 [(0, (pq b_2)), (1, i6 held_59), (7, i6 i_249), (42, .bool x_377)] a) ?_ ?_
 rintro a w ⟨x_377, hI, hS, ha⟩
 refine in_frame ha ?_
 clear ha hV
 have hV := hJ_379 _ hI
 clear hI hJ_379
 refine WC.cond rfl ?_ ?_
 intro hc_489
 replace hV := hV.1 hc_489
 refine WC.skip ?_
 refine WQ.next ?_
 refine WC.seq ?_
 refine WC.block ?_
 refine WC.sr ?_
 refine WL.mv rfl rfl ?_
 refine WL.run hS rfl rfl rfl (ex_nilCheck rfl) ?_
 refine WL.run hS rfl rfl rfl (ex_fieldAddr (o' := 1) Try.underlying39 rfl Try.sizeOf3 rfl rfl) ?_
 refine WL.run hS rfl rfl rfl (ex_load_box Try.isAgg3 rfl rfl) ?_
 obtain ⟨hm_389, hV⟩ := hV
 refine WL.make (c := cBool) (z0 := false) rfl Try.underlying28 Try.info4 rfl rfl rfl rfl hm_389.1 hm_389.2.1 hm_389.2.2 hS ?_
 clear hS
 intro v_386 w fp_387 h_388 hS
 refine WL.ma rfl rfl ?_
 refine WL.nx ?_
 refine WC.seq ?_
 refine WC.sr ?_
 refine WL.ma rfl rfl ?_
 refine WL.nx ?_
 refine WC.block ?_
 replace hS := hS.f13.f13.f13.f13.f13.f13.f13.f13.f13.f13.f13.f13
 obtain ⟨I_421, mu_422, hI_488, hV⟩ := hV
 refine WC.loop (σ := (List Bool) × Int) (fun s a w => ∃ (xat_403 : List Bool) (k_407 : Int) (v_404 : Value) (fp_405 : Seg), s = (xat_403, k_407) ∧ I_421 (xat_403, k_407) ∧ OwnSl H cBool 4 v_404 xat_403 fp_405 ∧ I64 k_407 ∧ St w0 H ([(b_2, oc #[(pq b_5), i6 n_37, v_40, v_45, v_50, v_55] 39)] ++ ([(b_5, oc #[v_8, v_13, v_18, v_23, v_28, v_33] 79)] ++ (fp_10 ++ (fp_15 ++ (fp_20 ++ (fp_25 ++ (fp_30 ++ (fp_35 ++ (fp_42 ++ (fp_47 ++ (fp_52 ++ (fp_57 ++ (fp_405 ++ L))))))))))))) w ∧ Fr 97 [(0, (pq b_2)), (1, i6 held_59), (7, i6 i_249), (8, v_404), (9, i6 k_407)] a) mu_422 ((List.replicate n_37.toNat false), 0) ?_ ?_
 exact fun a ha => ⟨(List.replicate n_37.toNat false), 0, v_386, fp_387, rfl, hI_488, h_388, (by unfold I64; omega), hS, ha.of_sub ⟨rfl, rfl, rfl, rfl, rfl, trivial⟩⟩
 clear hS hI_488
 rintro _ a w ⟨xat_403, k_407, v_404, fp_405, rfl, hI, h_406, hr_408, hS, ha⟩
 refine in_frame ha ?_
 clear ha
 replace hV := hV _ hI
 clear hI
 refine WC.seq ?_
 refine WC.sr ?_
 refine WL.mv rfl rfl ?_
 refine WL.mv rfl rfl ?_
 refine WL.run hS rfl rfl rfl (ex_nilCheck rfl) ?_
 refine WL.run hS rfl rfl rfl (ex_fieldAddr (o' := 1) Try.underlying39 rfl Try.sizeOf3 rfl rfl) ?_
 refine WL.run hS rfl rfl rfl (ex_load_box Try.isAgg3 rfl rfl) ?_
 refine WL.run hS rfl rfl rfl (ex_lss rfl rfl) ?_
 refine WL.nx ?_
 refine WC.cond rfl ?_ ?_
 intro hc_487
 replace hV := hV.1 (of_decide_eq_true hc_487)
 refine WC.skip ?_
 refine WQ.next ?_
 refine WC.seq ?_
 refine WC.block ?_
 refine WC.region ?_
 refine WL.mv rfl rfl ?_
 refine WL.mv rfl rfl ?_
 refine WL.mv rfl rfl ?_
 refine WL.mv rfl rfl ?_
 obtain ⟨hi_425, hV⟩ := hV
 refine WL.run hS rfl rfl rfl (ex_shr rfl rfl hi_425) ?_
 obtain ⟨hi_426, hV⟩ := hV
 refine WL.run hS rfl rfl rfl (ex_and rfl rfl (I64.fdiv2 hr_250) hi_426) ?_
 refine WL.run hS rfl rfl rfl (ex_eql rfl rfl) ?_
 obtain ⟨hin_428, hV⟩ := hV
 refine WL.runx hS rfl rfl rfl (ex_index_own Try.underlying28 Try.sizeOf4 rfl rfl h_406 hin_428) ?_
 intro p_429 hp_430
 replace hS := hS.f13
 refine WL.store_own Try.sizeOf4 rfl rfl rfl cBool_mk hS h_406 hp_430 hin_428 ?_
 clear hS
 intro w fp_432 h_431 hS
 refine WL.nil ?_
 refine WQ.out nofun ?_
 refine WQ.next ?_
 refine WC.sub (m := [(0, (pq b_2)), (1, i6 held_59), (7, i6 i_249), (8, v_404), (9, i6 k_407)]) ⟨rfl, rfl, rfl, rfl, rfl, trivial⟩ ?_
 refine WC.region ?_
 refine WL.mv rfl rfl ?_
 obtain ⟨hi_434, hV⟩ := hV
 refine WL.run hS rfl rfl rfl (ex_add rfl rfl hi_434) ?_
 refine WL.ma rfl rfl ?_
 refine WL.nil ?_
 replace hS := hS.f13.f13.f13.f13.f13.f13.f13.f13.f13.f13.f13.f13
 exact WQ.there fun a ha => ⟨((xat_403.set k_407.toNat (decide ((nat2 (· &&& ·) (i_249.fdiv (2 ^ k_407.toNat)) 1) = 1))), (k_407 + 1)), ⟨(xat_403.set k_407.toNat (decide ((nat2 (· &&& ·) (i_249.fdiv (2 ^ k_407.toNat)) 1) = 1))), (k_407 + 1), v_404, fp_432, rfl, hV.1, h_431, hi_434, hS, ha.of_sub ⟨rfl, rfl, rfl, rfl, rfl, trivial⟩⟩, hV.2⟩
 intro hc_487
 replace hV := hV.2 (of_decide_eq_false hc_487)
 refine WC.exit ?_
 refine WQ.pass nofun ?_
 refine WQ.pass nofun ?_
 refine WQ.hit ?_
 refine WQ.next ?_
 refine WC.seq ?_
 refine WC.drawn (σ := [0, 1, 2, 3, 4, 5, 6, 7, 8, 9, 10, 11, 12, 13]) (C := St w0 H ([(b_2, oc #[(pq b_5), i6 n_37, v_40, v_45, v_50, v_55] 39)] ++ ([(b_5, oc #[v_8, v_13, v_18, v_23, v_28, v_33] 79)] ++ (fp_10 ++ (fp_15 ++ (fp_20 ++ (fp_25 ++ (fp_30 ++ (fp_35 ++ (fp_42 ++ (fp_47 ++ (fp_52 ++ (fp_57 ++ (fp_405 ++ L)))))))))))))) [[], [0], [0, 1], [0, 1, 2], [], [4], [4, 5], [4, 5, 6], [], [4, 5, 6, 7, 8], [4, 5, 6, 7, 8, 9], [], [0, 1, 2, 3, 4, 5, 6, 7, 8, 9, 10, 11], [0, 1, 2, 3, 4, 5, 6, 7, 8, 9, 10, 11, 12]] [12] Try.mixed (by kernel_rfl) (hS.drawn _) ?_
 clear hS w
 refine Wd.run rfl rfl rfl rfl (fun _ => ex_move rfl) fun q_436 hq_435 => ?_
 refine Wd.run rfl rfl rfl rfl (fun _ => ex_nilCheck rfl) fun q_438 hq_437 => ?_
 refine Wd.run rfl rfl rfl rfl (fun _ => ex_fieldAddr (o' := 0) Try.underlying39 rfl Try.sizeOf36 rfl rfl) fun q_440 hq_439 => ?_
 refine Wd.runb (off := 0) rfl rfl rfl rfl (fun _ _ _ h => ex_load_box Try.isAgg36 rfl h) rfl (fun _ h => h) fun q_442 hq_441 => ?_
 refine Wd.run rfl rfl rfl rfl (fun _ => ex_move rfl) fun q_444 hq_443 => ?_
 refine Wd.run rfl rfl rfl rfl (fun _ => ex_nilCheck rfl) fun q_446 hq_445 => ?_
 refine Wd.run rfl rfl rfl rfl (fun _ => ex_fieldAddr (o' := 2) Try.underlying39 rfl Try.sizeOf35 rfl rfl) fun q_448 hq_447 => ?_
 refine Wd.runb (off := 2) rfl rfl rfl rfl (fun _ _ _ h => ex_load_box Try.isAgg35 rfl h) rfl (fun _ h => h) fun q_450 hq_449 => ?_
 refine Wd.run rfl rfl rfl rfl (fun _ => ex_move rfl) fun q_452 hq_451 => ?_
 obtain ⟨hin_455, hV⟩ := hV
 refine Wd.runx rfl rfl rfl rfl (exAll (ex_index_own Try.underlying35 Try.sizeOf32 rfl rfl h_41 hin_455)) ?_
 intro p_456 hp_457
 intro q_454 hq_453
 refine Wd.runs (fp := fp_42) rfl rfl rfl rfl (ex_load_own_s Try.isAgg32 rfl rfl h_41 hp_457 hin_455) (fun _ h => St.f9 h) ?_
 intro u_460 hu_461
 obtain ⟨rfl, hr_462⟩ := cInt_rep hu_461
 replace hr_462 := has_I64 hr_462
 replace hV := hV hr_462
 intro q_459 hq_458
 refine Wd.run rfl rfl rfl rfl (fun _ => ex_move rfl) fun q_464 hq_463 => ?_
 refine Wd.turn rfl rfl rfl fun w hS => ?_
 replace hS := hS.f8.f8.f8.f8.f8.f8.f8.f13
 have hL_465 := hS.freeze
 refine WL.call rfl rfl rfl (enters0 (vs := [(pq b_5), i6 (ix nodes_39 i_249), v_404]) Try.call40 ⟨rfl, rfl, rfl, trivial⟩) (S_Eval  (h_9.mono hS.put_le) (h_14.mono hS.put_le) (h_19.mono hS.put_le) (h_24.mono hS.put_le) (h_29.mono hS.put_le) (h_34.mono hS.put_le) hr_462 (h_406.share hS.put_le) hL_465 hV) ?_
 clear hV
 rintro _ w ⟨r_466, hV, rfl, hL_467⟩
 refine ⟨_, rfl, ?_⟩
 have hB_469 := hS.back hL_467
 replace hS := hB_469
 clear hL_467 hL_465 hB_469
 refine WL.nil (DQ.mk2 (C' := St w0 H (fp_405 ++ ([(b_5, oc #[v_8, v_13, v_18, v_23, v_28, v_33] 79)] ++ (fp_10 ++ (fp_15 ++ (fp_20 ++ (fp_25 ++ (fp_30 ++ (fp_35 ++ ([(b_2, oc #[(pq b_5), i6 n_37, v_40, v_45, v_50, v_55] 39)] ++ (fp_42 ++ (fp_47 ++ (fp_52 ++ (fp_57 ++ L)))))))))))))) hS ⟨il, il, il, il, il, il, il, il, il, il, il, il, trivial⟩ ?_)
 clear hS w
 refine Wd.run rfl rfl rfl rfl (fun _ => ex_assign rfl) fun q_471 hq_470 => ?_
 refine Wd.nil fun w hS => ?_
 refine WQ.next ?_
 refine WC.sub (m := [(0, (pq b_2)), (1, i6 held_59), (7, i6 i_249), (10, .bool r_466)]) ⟨rfl, rfl, rfl, rfl, trivial⟩ ?_
 replace hS := hS.drop
 refine WC.seq ?_
 refine WC.quiet (C := St w0 H ([(b_5, oc #[v_8, v_13, v_18, v_23, v_28, v_33] 79)] ++ (fp_10 ++ (fp_15 ++ (fp_20 ++ (fp_25 ++ (fp_30 ++ (fp_35 ++ ([(b_2, oc #[(pq b_5), i6 n_37, v_40, v_45, v_50, v_55] 39)] ++ (fp_42 ++ (fp_47 ++ (fp_52 ++ (fp_57 ++ L))))))))))))) Try.mixed (by kernel_rfl) (hS.drawn _) ?_
 clear hS w
 refine Wq.run rfl rfl rfl (ex_move rfl) ?_
 refine Wq.run rfl rfl rfl (ex_move rfl) ?_
 refine Wq.run rfl rfl rfl (ex_nilCheck rfl) ?_
 refine Wq.run rfl rfl rfl (ex_fieldAddr (o' := 3) Try.underlying39 rfl Try.sizeOf37 rfl rfl) ?_
 refine Wq.run rfl rfl rfl ((ex_load_box Try.isAgg37 rfl rfl).of (fun _ h => St.f8 h)) ?_
 refine Wq.run rfl rfl rfl (ex_move rfl) ?_
 obtain ⟨hin_472, hV⟩ := hV
 refine Wq.runx rfl rfl rfl (ex_index_own Try.underlying37 Try.sizeOf28 rfl rfl h_46 hin_472) ?_
 intro p_473 hp_474
 refine Wq.runx rfl rfl rfl (exQ (ex_load_own_s Try.isAgg28 rfl rfl h_46 hp_474 hin_472) _ (fun _ h => St.f10 h)) ?_
 intro u_475 hu_476
 replace hu_476 := cSl_rep hu_476
 refine Wq.run rfl rfl rfl (ex_move rfl) ?_
 refine Wq.run rfl rfl rfl (ex_move rfl) ?_
 refine Wq.run rfl rfl rfl (ex_nilCheck rfl) ?_
 refine Wq.run rfl rfl rfl (ex_fieldAddr (o' := 1) Try.underlying39 rfl Try.sizeOf3 rfl rfl) ?_
 refine Wq.run rfl rfl rfl ((ex_load_box Try.isAgg3 rfl rfl).of (fun _ h => St.f8 h)) ?_
 obtain ⟨hi_477, hV⟩ := hV
 refine Wq.run rfl rfl rfl (ex_shl rfl rfl hi_477) ?_
 obtain ⟨hi_478, hV⟩ := hV
 refine Wq.run rfl rfl rfl (ex_rem rfl rfl hi_478) ?_
 obtain ⟨hin_479, hV⟩ := hV
 refine Wq.runx rfl rfl rfl (ex_index Try.underlying28 Try.sizeOf4 rfl rfl hu_476 hin_479) ?_
 intro p_480 hp_481
 refine Wq.runx rfl rfl rfl (ex_load Try.isAgg4 rfl rfl hp_481) ?_
 intro u_482 hu_483
 obtain rfl := cBool_rep hu_483
 refine Wq.run rfl rfl rfl (ex_bneq Try.underlying4 rfl rfl) ?_
 refine Wq.nil fun w hS => ?_
 refine WQ.next ?_
 refine WC.sub (m := [(0, (pq b_2)), (1, i6 held_59), (7, i6 i_249), (96, .bool (!(r_466 == (ix (ix fs_44 i_249) (i_249.tmod ((1 : Int) * 2 ^ n_37.toNat))))))]) ⟨rfl, rfl, rfl, rfl, trivial⟩ ?_
 refine WC.cond rfl ?_ ?_
 intro hc_486
 replace hV := hV.1 hc_486
 refine WC.sr ?_
 refine WL.ma rfl rfl ?_
 refine WL.nx ?_
 refine WC.ret ?_
 refine WQ.out nofun ?_
 refine WQ.pass nofun ?_
 refine WQ.pass nofun ?_
 refine WQ.out nofun ?_
 refine WQ.pass nofun ?_
 replace hS := hS.f12.f12.f12.f12.f11.f11.f11.f11.f11.f11.f11.f12
 exact leave1 rfl rfl ⟨false, hV, rfl, hS⟩
 intro hc_486
 replace hV := hV.2 hc_486
 refine WC.skip ?_
 refine WQ.out nofun ?_
 refine WQ.next ?_
 refine WC.region ?_
 refine WL.mv rfl rfl ?_
 obtain ⟨hi_485, hV⟩ := hV
 refine WL.run hS rfl rfl rfl (ex_add rfl rfl hi_485) ?_
 refine WL.ma rfl rfl ?_
 refine WL.nil ?_
 replace hS := hS.f12.f12.f12.f12.f11.f11.f11.f11.f11.f11.f11.f12
 exact WQ.there fun a ha => ⟨(i_249 + 1), ⟨(i_249 + 1), rfl, hV.1, hi_485, hS, ha.of_sub ⟨rfl, rfl, rfl, trivial⟩⟩, hV.2⟩
 intro hc_489
 replace hV := hV.2 hc_489
 refine WC.exit ?_
 refine WQ.pass nofun ?_
 refine WQ.pass nofun ?_
 refine WQ.hit ?_
 refine WQ.next ?_
 refine WC.sr ?_
 refine WL.ma rfl rfl ?_
 refine WL.nx ?_
 refine WC.ret ?_
 replace hS := hS.f12.f12.f12.f12.f12.f12.f12.f12.f12.f12.f12.f12
 exact leave1 rfl rfl ⟨true, hV, rfl, hS⟩
 clear hJ_379
 refine WC.region ?_
 refine WL.mv rfl rfl ?_
 obtain ⟨hi_380, hV⟩ := hV
 refine WL.run hS rfl rfl rfl (ex_and rfl rfl hr_60 hi_380) ?_
 refine WL.run hS rfl rfl rfl (ex_gtr rfl rfl) ?_
 refine WL.mv rfl rfl ?_
 rcases Bool.eq_false_or_eq_true (decide (0 < (nat2 (· &&& ·) held_59 1))) with hg_382 | hg_382
 replace hV := hV.1 (of_decide_eq_true hg_382)
 refine WL.unguard rfl rfl hg_382 ?_
 refine WL.mv rfl rfl ?_
 refine WL.unguard rfl rfl hg_382 ?_
 refine WL.mv rfl rfl ?_
 refine WL.unguard rfl rfl hg_382 ?_
 refine WL.run hS rfl rfl rfl (ex_nilCheck rfl) ?_
 refine WL.unguard rfl rfl hg_382 ?_
 refine WL.run hS rfl rfl rfl (ex_fieldAddr (o' := 2) Try.underlying39 rfl Try.sizeOf35 rfl rfl) ?_
 refine WL.unguard rfl rfl hg_382 ?_
 refine WL.run hS rfl rfl rfl (ex_load_box Try.isAgg35 rfl rfl) ?_
 refine WL.unguard rfl rfl hg_382 ?_
 have hl_383 : Len nodes_39 := h_41.bound
 replace hV := hV hl_383
 refine WL.run hS rfl rfl rfl (ex_len_own Try.underlying35 rfl h_41) ?_
 refine WL.unguard rfl rfl hg_382 ?_
 refine WL.run hS rfl rfl rfl (ex_lss rfl rfl) ?_
 refine WL.run hS rfl rfl rfl (ex_pick_t rfl hg_382 rfl) ?_
 refine WL.nil ?_
 replace hS := hS.f12.f12.f12.f12.f12.f12.f12.f12.f12.f12.f12.f12
 exact WQ.there fun a ha => ⟨decide (i_249 < (nodes_39.length : Int)), hV, hS, ha.of_sub ⟨rfl, rfl, rfl, rfl, trivial⟩⟩
 replace hV := hV.2 (of_decide_eq_false hg_382)
 refine WL.skip_g rfl rfl rfl hg_382 rfl rfl ?_
 refine WL.skip_g rfl rfl rfl hg_382 rfl rfl ?_
 refine WL.skip_g rfl rfl rfl hg_382 rfl rfl ?_
 refine WL.skip_g rfl rfl rfl hg_382 rfl rfl ?_
 refine WL.skip_g rfl rfl rfl hg_382 rfl rfl ?_
 refine WL.skip_g rfl rfl rfl hg_382 rfl rfl ?_
 refine WL.skip_g rfl rfl rfl hg_382 rfl rfl ?_
 refine WL.run hS rfl rfl rfl (ex_pick_f rfl hg_382 rfl) ?_
 refine WL.nil ?_
 replace hS := hS.f12.f12.f12.f12.f12.f12.f12.f12.f12.f12.f12.f12
 exact WQ.there fun a ha => ⟨false, hV, hS, ha.of_sub ⟨rfl, rfl, rfl, rfl, trivial⟩⟩
 clear hJ_96
 refine WC.sr ?_
 refine WL.mv rfl rfl ?_
 obtain ⟨hi_97, hV⟩ := hV
 refine WL.run hS rfl rfl rfl (ex_and rfl rfl hr_60 hi_97) ?_
 refine WL.run hS rfl rfl rfl (ex_gtr rfl rfl) ?_
 refine WL.nx ?_
 refine WC.cond rfl ?_ ?_
 intro hc_130
 replace hV := hV.1 (of_decide_eq_true hc_130)
 refine WC.sr ?_
 refine WL.mv rfl rfl ?_
 refine WL.run hS rfl rfl rfl (ex_nilCheck rfl) ?_
 refine WL.run hS rfl rfl rfl (ex_fieldAddr (o' := 0) Try.underlying39 rfl Try.sizeOf36 rfl rfl) ?_
 refine WL.run hS rfl rfl rfl (ex_load_box Try.isAgg36 rfl rfl) ?_
 replace hS := hS.f8.f8.f8.f8.f8.f8.f8
 refine WL.call rfl rfl rfl (enters0 (vs := [(pq b_5)]) Try.call22 ⟨rfl, trivial⟩) (S_Nodes  h_9 h_14 h_19 h_24 h_29 h_34 hS hV) ?_
 clear hV hS
 rintro _ w ⟨r_99, hV, rfl, hr_100, hS⟩
 refine ⟨_, rfl, ?_⟩
 refine WL.ma rfl rfl ?_
 refine WL.nx ?_
 refine WC.seq ?_
 refine WC.drawn (σ := [0, 1, 2, 3, 4, 5, 6, 7, 8, 9]) (C := St w0 H ([(b_5, oc #[v_8, v_13, v_18, v_23, v_28, v_33] 79)] ++ (fp_10 ++ (fp_15 ++ (fp_20 ++ (fp_25 ++ (fp_30 ++ (fp_35 ++ ([(b_2, oc #[(pq b_5), i6 n_37, v_40, v_45, v_50, v_55] 39)] ++ (fp_42 ++ (fp_47 ++ (fp_52 ++ (fp_57 ++ L))))))))))))) [[], [0], [0, 1], [0, 1, 2], [], [4], [4, 5], [4, 5, 6], [0, 1, 2, 3, 4, 5, 6, 7], [0, 1, 2, 3, 4, 5, 6, 7, 8]] [8] Try.mixed (by kernel_rfl) (hS.drawn _) ?_
 clear hS w
 refine Wd.run rfl rfl rfl rfl (fun _ => ex_move rfl) fun q_103 hq_102 => ?_
 refine Wd.run rfl rfl rfl rfl (fun _ => ex_nilCheck rfl) fun q_105 hq_104 => ?_
 refine Wd.run rfl rfl rfl rfl (fun _ => ex_fieldAddr (o' := 5) Try.underlying39 rfl Try.sizeOf37 rfl rfl) fun q_107 hq_106 => ?_
 refine Wd.runb (off := 5) rfl rfl rfl rfl (fun _ _ _ h => ex_load_box Try.isAgg37 rfl h) rfl (fun _ h => St.f8 h) fun q_109 hq_108 => ?_
 refine Wd.run rfl rfl rfl rfl (fun _ => ex_move rfl) fun q_111 hq_110 => ?_
 refine Wd.run rfl rfl rfl rfl (fun _ => ex_nilCheck rfl) fun q_113 hq_112 => ?_
 refine Wd.run rfl rfl rfl rfl (fun _ => ex_fieldAddr (o' := 4) Try.underlying39 rfl Try.sizeOf27 rfl rfl) fun q_115 hq_114 => ?_
 refine Wd.runb (off := 4) rfl rfl rfl rfl (fun _ _ _ h => ex_load_box Try.isAgg27 rfl h) rfl (fun _ h => St.f8 h) fun q_117 hq_116 => ?_
 refine Wd.turn rfl rfl rfl fun w hS => ?_
 replace hS := hS.f11.f12
 have hL_118 := hS.freeze
 have hL_119 := hL_118.freeze
 refine WL.call rfl rfl rfl (enters0 (vs := [v_55, v_50]) Try.call23 ⟨rfl, rfl, trivial⟩) (S_rSize  ((h_56.share hS.put_le).mono hL_118.put_le) ((h_51.mono hS.put_le).share hL_118.put_le) hL_119 hV) ?_
 clear hV
 rintro _ w ⟨r_120, hV, rfl, hr_121, hL_122⟩
 refine ⟨_, rfl, ?_⟩
 have hB_124 := hL_118.back hL_122
 have hB_125 := hS.back hB_124
 replace hS := hB_125
 clear hL_122 hL_118 hL_119 hB_124 hB_125
 refine WL.nil (DQ.mk2 (C' := St w0 H (fp_57 ++ (fp_52 ++ ([(b_5, oc #[v_8, v_13, v_18, v_23, v_28, v_33] 79)] ++ (fp_10 ++ (fp_15 ++ (fp_20 ++ (fp_25 ++ (fp_30 ++ (fp_35 ++ ([(b_2, oc #[(pq b_5), i6 n_37, v_40, v_45, v_50, v_55] 39)] ++ (fp_42 ++ (fp_47 ++ L))))))))))))) hS ⟨il, il, il, il, il, il, il, il, trivial⟩ ?_)
 clear hS w
 refine Wd.run rfl rfl rfl rfl (fun _ => ex_assign rfl) fun q_127 hq_126 => ?_
 refine Wd.nil fun w hS => ?_
 refine WQ.next ?_
 refine WC.sub (m := [(0, (pq b_2)), (1, i6 held_59), (5, i6 r_99), (6, i6 r_120)]) ⟨rfl, rfl, rfl, rfl, trivial⟩ ?_
 refine WC.sr ?_
 refine WL.mv rfl rfl ?_
 refine WL.mv rfl rfl ?_
 refine WL.run hS rfl rfl rfl (ex_lss rfl rfl) ?_
 refine WL.nx ?_
 refine WC.cond rfl ?_ ?_
 intro hc_129
 replace hV := hV.1 (of_decide_eq_true hc_129)
 refine WC.sr ?_
 refine WL.ma rfl rfl ?_
 refine WL.nx ?_
 refine WC.ret ?_
 refine WQ.pass nofun ?_
 replace hS := hS.f2.f12.f12.f11.f11.f11.f11.f11.f11.f11.f12
 exact leave1 rfl rfl ⟨false, hV, rfl, hS⟩
 intro hc_129
 replace hV := hV.2 (of_decide_eq_false hc_129)
 refine WC.skip ?_
 replace hS := hS.f2.f12.f12.f11.f11.f11.f11.f11.f11.f11.f12
 exact WQ.there fun a ha => ⟨hV, hS, ha.of_sub ⟨rfl, rfl, trivial⟩⟩
 intro hc_130
 replace hV := hV.2 (of_decide_eq_false hc_130)
 refine WC.skip ?_
 replace hS := hS.f12.f12.f12.f12.f12.f12.f12.f12.f12.f12.f12.f12
 exact WQ.there fun a ha => ⟨hV, hS, ha.of_sub ⟨rfl, rfl, trivial⟩⟩

end Go.Proofs.Ytceipmldngeagaa
