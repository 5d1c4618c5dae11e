/- For each function: called, it does its work where its condition is so. Printed by program. -/
import Derived.Test.YtlhkfkecoekoeaaGreatDoorFacts
import Derived.Test.YtlhkfkecoekoeaaGreatDoorConds
import Derived.Test.YtlhkfkecoekoeaaGreatDoorShv
import Derived.Test.YtlhkfkecoekoeaaGreatDoorTold
import Derived.Test.YtlhkfkecoekoeaaGreatDoorWalks3
set_option linter.unusedVariables false
set_option linter.unusedSimpArgs false
set_option maxRecDepth 100000
set_option maxHeartbeats 1000000
namespace Go.Proofs.YtlhkfkecoekoeaaGreatDoor
open Go.Vc
theorem S_rReserved {w0 : World} {H : View} {L : Seg} {w : World} {s_1 : Str} {Q : Bool → Prop}  (hS : St w0 H (L) w) (hV : V_rReserved s_1 Q) :
 Calls Tryz.prog 116 #[sv s_1] w fun e w' => ∃ (r1 : Bool), Q r1 ∧ e = .returned (.bool r1) ∧ St w0 H (L) w' := by
 unfold V_rReserved at hV
 refine enter Tryz.func116 rfl Tryz.ntmps116 rfl (lk_args_cons (d := 0) (v := sv s_1) rfl (lk_args_nil _)) (WC.sr (WL.ma rfl rfl (WL.nx (WC.sr ?_))))
 refine WL.buildn (c := cStr) (xs := [([109, 111, 100, 117, 108, 101] : Str), ([99, 111, 110, 115, 116, 97, 110, 116] : Str), ([97, 116, 111, 109, 115] : Str), ([115, 121, 109, 109, 101, 116, 114, 105, 99] : Str), ([118, 97, 114, 105, 97, 98, 108, 101] : Str), ([100, 101, 102, 105, 110, 101] : Str), ([105, 110, 105, 116] : Str), ([97, 99, 116, 105, 111, 110] : Str), ([102, 97, 105, 114] : Str), ([119, 101, 97, 107] : Str), ([115, 116, 114, 111, 110, 103] : Str), ([105, 110, 118, 97, 114, 105, 97, 110, 116] : Str), ([112, 114, 111, 112, 101, 114, 116, 121] : Str), ([97, 110, 100] : Str), ([111, 114] : Str), ([110, 111, 116] : Str), ([105, 109, 112, 108, 105, 101, 115] : Str), ([105, 102, 102] : Str), ([105, 110] : Str), ([117, 110, 105, 111, 110] : Str), ([105, 110, 116, 101, 114] : Str), ([109, 105, 110, 117, 115] : Str), ([115, 117, 98, 115, 101, 116] : Str), ([112, 111, 119, 101, 114, 115, 101, 116] : Str), ([102, 108, 97, 116, 116, 101, 110] : Str), ([100, 111, 109, 97, 105, 110] : Str), ([117, 110, 99, 104, 97, 110, 103, 101, 100] : Str), ([101, 110, 97, 98, 108, 101, 100] : Str), ([97, 108, 119, 97, 121, 115] : Str), ([101, 118, 101, 110, 116, 117, 97, 108, 108, 121] : Str), ([117, 110, 116, 105, 108] : Str), ([108, 101, 97, 100, 115, 116, 111] : Str), ([99, 104, 111, 111, 115, 101] : Str), ([97, 108, 108] : Str), ([115, 111, 109, 101] : Str), ([101, 97, 99, 104] : Str), ([116, 104, 111, 115, 101] : Str), ([102, 117, 110] : Str), ([105, 102] : Str), ([116, 104, 101, 110] : Str), ([101, 108, 115, 101] : Str), ([108, 101, 116] : Str), ([110, 105, 108] : Str), ([116, 114, 117, 101] : Str), ([102, 97, 108, 115, 101] : Str), ([115, 105, 122, 101] : Str), ([108, 101, 110] : Str), ([104, 101, 97, 100] : Str), ([116, 97, 105, 108] : Str), ([97, 112, 112, 101, 110, 100] : Str), ([118, 97, 108, 117, 101, 115] : Str), ([115, 101, 113, 115] : Str)]) (vs := [sv ([109, 111, 100, 117, 108, 101] : Str), sv ([99, 111, 110, 115, 116, 97, 110, 116] : Str), sv ([97, 116, 111, 109, 115] : Str), sv ([115, 121, 109, 109, 101, 116, 114, 105, 99] : Str), sv ([118, 97, 114, 105, 97, 98, 108, 101] : Str), sv ([100, 101, 102, 105, 110, 101] : Str), sv ([105, 110, 105, 116] : Str), sv ([97, 99, 116, 105, 111, 110] : Str), sv ([102, 97, 105, 114] : Str), sv ([119, 101, 97, 107] : Str), sv ([115, 116, 114, 111, 110, 103] : Str), sv ([105, 110, 118, 97, 114, 105, 97, 110, 116] : Str), sv ([112, 114, 111, 112, 101, 114, 116, 121] : Str), sv ([97, 110, 100] : Str), sv ([111, 114] : Str), sv ([110, 111, 116] : Str), sv ([105, 109, 112, 108, 105, 101, 115] : Str), sv ([105, 102, 102] : Str), sv ([105, 110] : Str), sv ([117, 110, 105, 111, 110] : Str), sv ([105, 110, 116, 101, 114] : Str), sv ([109, 105, 110, 117, 115] : Str), sv ([115, 117, 98, 115, 101, 116] : Str), sv ([112, 111, 119, 101, 114, 115, 101, 116] : Str), sv ([102, 108, 97, 116, 116, 101, 110] : Str), sv ([100, 111, 109, 97, 105, 110] : Str), sv ([117, 110, 99, 104, 97, 110, 103, 101, 100] : Str), sv ([101, 110, 97, 98, 108, 101, 100] : Str), sv ([97, 108, 119, 97, 121, 115] : Str), sv ([101, 118, 101, 110, 116, 117, 97, 108, 108, 121] : Str), sv ([117, 110, 116, 105, 108] : Str), sv ([108, 101, 97, 100, 115, 116, 111] : Str), sv ([99, 104, 111, 111, 115, 101] : Str), sv ([97, 108, 108] : Str), sv ([115, 111, 109, 101] : Str), sv ([101, 97, 99, 104] : Str), sv ([116, 104, 111, 115, 101] : Str), sv ([102, 117, 110] : Str), sv ([105, 102] : Str), sv ([116, 104, 101, 110] : Str), sv ([101, 108, 115, 101] : Str), sv ([108, 101, 116] : Str), sv ([110, 105, 108] : Str), sv ([116, 114, 117, 101] : Str), sv ([102, 97, 108, 115, 101] : Str), sv ([115, 105, 122, 101] : Str), sv ([108, 101, 110] : Str), sv ([104, 101, 97, 100] : Str), sv ([116, 97, 105, 108] : Str), sv ([97, 112, 112, 101, 110, 100] : Str), sv ([118, 97, 108, 117, 101, 115] : Str), sv ([115, 101, 113, 115] : Str)]) rfl Tryz.underlying43 Tryz.info9 rfl rfl ⟨rfl, rfl, rfl, rfl, rfl, rfl, rfl, rfl, rfl, rfl, rfl, rfl, rfl, rfl, rfl, rfl, rfl, rfl, rfl, rfl, rfl, rfl, rfl, rfl, rfl, rfl, rfl, rfl, rfl, rfl, rfl, rfl, rfl, rfl, rfl, rfl, rfl, rfl, rfl, rfl, rfl, rfl, rfl, rfl, rfl, rfl, rfl, rfl, rfl, rfl, rfl, rfl, trivial⟩ rfl ⟨_, _, rfl, cStr_mk, ⟨_, _, rfl, cStr_mk, ⟨_, _, rfl, cStr_mk, ⟨_, _, rfl, cStr_mk, ⟨_, _, rfl, cStr_mk, ⟨_, _, rfl, cStr_mk, ⟨_, _, rfl, cStr_mk, ⟨_, _, rfl, cStr_mk, ⟨_, _, rfl, cStr_mk, ⟨_, _, rfl, cStr_mk, ⟨_, _, rfl, cStr_mk, ⟨_, _, rfl, cStr_mk, ⟨_, _, rfl, cStr_mk, ⟨_, _, rfl, cStr_mk, ⟨_, _, rfl, cStr_mk, ⟨_, _, rfl, cStr_mk, ⟨_, _, rfl, cStr_mk, ⟨_, _, rfl, cStr_mk, ⟨_, _, rfl, cStr_mk, ⟨_, _, rfl, cStr_mk, ⟨_, _, rfl, cStr_mk, ⟨_, _, rfl, cStr_mk, ⟨_, _, rfl, cStr_mk, ⟨_, _, rfl, cStr_mk, ⟨_, _, rfl, cStr_mk, ⟨_, _, rfl, cStr_mk, ⟨_, _, rfl, cStr_mk, ⟨_, _, rfl, cStr_mk, ⟨_, _, rfl, cStr_mk, ⟨_, _, rfl, cStr_mk, ⟨_, _, rfl, cStr_mk, ⟨_, _, rfl, cStr_mk, ⟨_, _, rfl, cStr_mk, ⟨_, _, rfl, cStr_mk, ⟨_, _, rfl, cStr_mk, ⟨_, _, rfl, cStr_mk, ⟨_, _, rfl, cStr_mk, ⟨_, _, rfl, cStr_mk, ⟨_, _, rfl, cStr_mk, ⟨_, _, rfl, cStr_mk, ⟨_, _, rfl, cStr_mk, ⟨_, _, rfl, cStr_mk, ⟨_, _, rfl, cStr_mk, ⟨_, _, rfl, cStr_mk, ⟨_, _, rfl, cStr_mk, ⟨_, _, rfl, cStr_mk, ⟨_, _, rfl, cStr_mk, ⟨_, _, rfl, cStr_mk, ⟨_, _, rfl, cStr_mk, ⟨_, _, rfl, cStr_mk, ⟨_, _, rfl, cStr_mk, ⟨_, _, rfl, cStr_mk, rfl⟩⟩⟩⟩⟩⟩⟩⟩⟩⟩⟩⟩⟩⟩⟩⟩⟩⟩⟩⟩⟩⟩⟩⟩⟩⟩⟩⟩⟩⟩⟩⟩⟩⟩⟩⟩⟩⟩⟩⟩⟩⟩⟩⟩⟩⟩⟩⟩⟩⟩⟩⟩ hS rfl ?_
 clear hS
 intro v_3 w fp_4 h_5 hS
 refine WL.ma rfl rfl (WL.nx (WC.seq (WC.sr (WL.ma rfl rfl (WL.nx (WC.block ?_))))))
 obtain ⟨I_30, mu_31, hI_44, hV⟩ := hV
 refine WC.loop (σ := Int) (fun s a w => ∃ (i_17 : Int), s = i_17 ∧ I_30 i_17 ∧ I64 i_17 ∧ St w0 H (fp_4 ++ L) w ∧ Fr 18 [(0, sv s_1), (3, v_3), (4, i6 i_17)] a) mu_31 (0 : Int) ?_ ?_
 exact fun a ha => ⟨(0 : Int), rfl, hI_44, (show I64 (0 : Int) by unfold I64; omega), hS, ha.of_sub ⟨rfl, rfl, rfl, trivial⟩⟩
 clear hS hI_44
 rintro i_17 a w ⟨_, rfl, hI, hr_18, hS, ha⟩
 refine in_frame ha ?_
 clear ha
 replace hV := hV _ hI
 clear hI
 refine WC.seq (WC.sr (WL.mv rfl rfl (WL.mv rfl rfl ?_)))
 have hl_33 : Len ([([109, 111, 100, 117, 108, 101] : Str), ([99, 111, 110, 115, 116, 97, 110, 116] : Str), ([97, 116, 111, 109, 115] : Str), ([115, 121, 109, 109, 101, 116, 114, 105, 99] : Str), ([118, 97, 114, 105, 97, 98, 108, 101] : Str), ([100, 101, 102, 105, 110, 101] : Str), ([105, 110, 105, 116] : Str), ([97, 99, 116, 105, 111, 110] : Str), ([102, 97, 105, 114] : Str), ([119, 101, 97, 107] : Str), ([115, 116, 114, 111, 110, 103] : Str), ([105, 110, 118, 97, 114, 105, 97, 110, 116] : Str), ([112, 114, 111, 112, 101, 114, 116, 121] : Str), ([97, 110, 100] : Str), ([111, 114] : Str), ([110, 111, 116] : Str), ([105, 109, 112, 108, 105, 101, 115] : Str), ([105, 102, 102] : Str), ([105, 110] : Str), ([117, 110, 105, 111, 110] : Str), ([105, 110, 116, 101, 114] : Str), ([109, 105, 110, 117, 115] : Str), ([115, 117, 98, 115, 101, 116] : Str), ([112, 111, 119, 101, 114, 115, 101, 116] : Str), ([102, 108, 97, 116, 116, 101, 110] : Str), ([100, 111, 109, 97, 105, 110] : Str), ([117, 110, 99, 104, 97, 110, 103, 101, 100] : Str), ([101, 110, 97, 98, 108, 101, 100] : Str), ([97, 108, 119, 97, 121, 115] : Str), ([101, 118, 101, 110, 116, 117, 97, 108, 108, 121] : Str), ([117, 110, 116, 105, 108] : Str), ([108, 101, 97, 100, 115, 116, 111] : Str), ([99, 104, 111, 111, 115, 101] : Str), ([97, 108, 108] : Str), ([115, 111, 109, 101] : Str), ([101, 97, 99, 104] : Str), ([116, 104, 111, 115, 101] : Str), ([102, 117, 110] : Str), ([105, 102] : Str), ([116, 104, 101, 110] : Str), ([101, 108, 115, 101] : Str), ([108, 101, 116] : Str), ([110, 105, 108] : Str), ([116, 114, 117, 101] : Str), ([102, 97, 108, 115, 101] : Str), ([115, 105, 122, 101] : Str), ([108, 101, 110] : Str), ([104, 101, 97, 100] : Str), ([116, 97, 105, 108] : Str), ([97, 112, 112, 101, 110, 100] : Str), ([118, 97, 108, 117, 101, 115] : Str), ([115, 101, 113, 115] : Str)]) := h_5.bound
 replace hV := hV hl_33
 refine WL.run hS rfl rfl rfl (ex_len_own Tryz.underlying43 rfl h_5) (WL.run hS rfl rfl rfl (ex_lss rfl rfl) (WL.nx ?_))
 refine WC.cond rfl ?_ ?_
 intro hc_43
 replace hV := hV.1 (of_decide_eq_true hc_43)
 refine WC.skip (WQ.next (WC.seq (WC.block (WC.sr (WL.mv rfl rfl (WL.mv rfl rfl ?_))))))
 obtain ⟨hin_35, hV⟩ := hV
 refine WL.runx hS rfl rfl rfl (ex_index_own Tryz.underlying43 Tryz.sizeOf9 rfl rfl h_5 hin_35) ?_
 intro p_36 hp_37
 refine WL.runx hS rfl rfl rfl (exNow (H := H) (L := L) (ex_load_own_s Tryz.isAgg9 rfl rfl h_5 hp_37 hin_35)) ?_
 intro u_38 hu_39
 obtain rfl := cStr_rep hu_39
 refine WL.mv rfl rfl (WL.run hS rfl rfl rfl (ex_s_eql rfl rfl) (WL.nx ?_))
 refine WC.cond rfl ?_ ?_
 intro hc_42
 replace hV := hV.1 (of_decide_eq_true hc_42)
 refine WC.sr (WL.ma rfl rfl (WL.nx (WC.sub (m := [(2, .bool true)]) ⟨rfl, trivial⟩ ?_)))
 replace hS := hS.drop
 refine WC.ret (WQ.out nofun (WQ.pass nofun (WQ.pass nofun (WQ.out nofun (WQ.pass nofun ?_)))))
 exact leave1 rfl rfl (⟨true, hV, rfl, hS⟩)
 intro hc_42
 replace hV := hV.2 (of_decide_eq_false hc_42)
 refine WC.skip (WQ.out nofun (WQ.next (WC.sub (m := [(0, sv s_1), (3, v_3), (4, i6 i_17)]) ⟨rfl, rfl, rfl, trivial⟩ (WC.region (WL.mv rfl rfl ?_)))))
 obtain ⟨hi_41, hV⟩ := hV
 refine WL.run hS rfl rfl rfl (ex_add rfl rfl hi_41) (WL.ma rfl rfl (WL.nil ?_))
 exact WQ.there fun a ha => ⟨(i_17 + (1 : Int)), ⟨(i_17 + (1 : Int)), rfl, hV.1, hi_41, hS, ha.of_sub ⟨rfl, rfl, rfl, trivial⟩⟩, hV.2⟩
 intro hc_43
 replace hV := hV.2 (of_decide_eq_false hc_43)
 refine WC.exit (WQ.pass nofun (WQ.pass nofun (WQ.hit (WQ.next ?_))))
 replace hS := hS.drop
 refine WC.sr (WL.ma rfl rfl (WL.nx (WC.ret ?_)))
 exact leave1 rfl rfl (⟨false, hV, rfl, hS⟩)

theorem S_rLetter {w0 : World} {H : View} {L : Seg} {w : World} {c_1 : Int} {Q : Bool → Prop} (hr_2 : IntKind.u8.has c_1) (hS : St w0 H (L) w) (hV : V_rLetter c_1 Q) :
 Calls Tryz.prog 115 #[.int .u8 c_1] w fun e w' => ∃ (r1 : Bool), Q r1 ∧ e = .returned (.bool r1) ∧ St w0 H (L) w' := by
 unfold V_rLetter at hV
 refine enter Tryz.func115 rfl Tryz.ntmps115 rfl (lk_args_cons (d := 0) (v := .int .u8 c_1) rfl (lk_args_nil _)) (WC.sr (WL.ma rfl rfl (WL.nx (WC.seq ?_))))
 refine WC.via (m := [(2, .bool (decide ((((97 : Int) ≤ c_1) ∧ (c_1 ≤ (122 : Int))) ∨ (((65 : Int) ≤ c_1) ∧ (c_1 ≤ (90 : Int))))))]) ?_ ?_
 refine WC.region (WL.mv rfl rfl (WL.run hS rfl rfl rfl (ex_geq rfl rfl) (WL.mv rfl rfl ?_)))
 rcases Bool.eq_false_or_eq_true (decide ((97 : Int) ≤ c_1)) with hg_3 | hg_3
 refine WL.unguard rfl rfl hg_3 (WL.mv rfl rfl (WL.unguard rfl rfl hg_3 (WL.run hS rfl rfl rfl (ex_leq rfl rfl) (WL.run hS rfl rfl rfl (ex_pick_t rfl hg_3 rfl) (WL.up (s := 8) rfl (and_t hg_3 : decide (c_1 ≤ (122 : Int)) = decide (((97 : Int) ≤ c_1) ∧ (c_1 ≤ (122 : Int)))) (WL.mv rfl rfl ?_))))))
 rcases Bool.eq_false_or_eq_true (decide (((97 : Int) ≤ c_1) ∧ (c_1 ≤ (122 : Int)))) with hg_4 | hg_4
 refine WL.skip_g rfl rfl rfl hg_4 rfl rfl (WL.skip_g rfl rfl rfl hg_4 rfl rfl (WL.skip_g rfl rfl rfl hg_4 rfl rfl (WL.skip_u rfl rfl rfl rfl rfl (WL.skip_u rfl rfl rfl rfl rfl (WL.skip_g rfl rfl rfl hg_4 rfl rfl (WL.run hS rfl rfl rfl (ex_pick_t rfl hg_4 rfl) (WL.up (s := 16) rfl (or_t hg_4 : true = decide ((((97 : Int) ≤ c_1) ∧ (c_1 ≤ (122 : Int))) ∨ (((65 : Int) ≤ c_1) ∧ (c_1 ≤ (90 : Int))))) ?_)))))))
 refine WL.ma rfl rfl ?_
 exact WL.nil (At.of ⟨rfl, trivial⟩)
 refine WL.unguard rfl rfl hg_4 (WL.mv rfl rfl (WL.unguard rfl rfl hg_4 (WL.run hS rfl rfl rfl (ex_geq rfl rfl) (WL.unguard rfl rfl hg_4 (WL.mv rfl rfl ?_)))))
 rcases Bool.eq_false_or_eq_true (decide ((65 : Int) ≤ c_1)) with hg_5 | hg_5
 refine WL.unguard rfl rfl hg_5 (WL.mv rfl rfl (WL.unguard rfl rfl hg_5 (WL.run hS rfl rfl rfl (ex_leq rfl rfl) (WL.unguard rfl rfl hg_4 (WL.run hS rfl rfl rfl (ex_pick_t rfl hg_5 rfl) (WL.up (s := 15) rfl (and_t hg_5 : decide (c_1 ≤ (90 : Int)) = decide (((65 : Int) ≤ c_1) ∧ (c_1 ≤ (90 : Int)))) (WL.run hS rfl rfl rfl (ex_pick_f rfl hg_4 rfl) ?_)))))))
 refine WL.up (s := 16) rfl (or_f hg_4 : decide (((65 : Int) ≤ c_1) ∧ (c_1 ≤ (90 : Int))) = decide ((((97 : Int) ≤ c_1) ∧ (c_1 ≤ (122 : Int))) ∨ (((65 : Int) ≤ c_1) ∧ (c_1 ≤ (90 : Int))))) (WL.ma rfl rfl ?_)
 exact WL.nil (At.of ⟨rfl, trivial⟩)
 refine WL.skip_g rfl rfl rfl hg_5 rfl rfl (WL.skip_g rfl rfl rfl hg_5 rfl rfl (WL.unguard rfl rfl hg_4 (WL.run hS rfl rfl rfl (ex_pick_f rfl hg_5 rfl) (WL.up (s := 15) rfl (and_f hg_5 : false = decide (((65 : Int) ≤ c_1) ∧ (c_1 ≤ (90 : Int)))) (WL.run hS rfl rfl rfl (ex_pick_f rfl hg_4 rfl) (WL.up (s := 16) rfl (or_f hg_4 : decide (((65 : Int) ≤ c_1) ∧ (c_1 ≤ (90 : Int))) = decide ((((97 : Int) ≤ c_1) ∧ (c_1 ≤ (122 : Int))) ∨ (((65 : Int) ≤ c_1) ∧ (c_1 ≤ (90 : Int))))) (WL.ma rfl rfl ?_)))))))
 exact WL.nil (At.of ⟨rfl, trivial⟩)
 refine WL.skip_g rfl rfl rfl hg_3 rfl rfl (WL.skip_g rfl rfl rfl hg_3 rfl rfl (WL.run hS rfl rfl rfl (ex_pick_f rfl hg_3 rfl) (WL.up (s := 8) rfl (and_f hg_3 : false = decide (((97 : Int) ≤ c_1) ∧ (c_1 ≤ (122 : Int)))) (WL.mv rfl rfl (WL.unguard rfl rfl (and_f hg_3).symm (WL.mv rfl rfl (WL.unguard rfl rfl (and_f hg_3).symm ?_)))))))
 refine WL.run hS rfl rfl rfl (ex_geq rfl rfl) (WL.unguard rfl rfl (and_f hg_3).symm (WL.mv rfl rfl ?_))
 rcases Bool.eq_false_or_eq_true (decide ((65 : Int) ≤ c_1)) with hg_6 | hg_6
 refine WL.unguard rfl rfl hg_6 (WL.mv rfl rfl (WL.unguard rfl rfl hg_6 (WL.run hS rfl rfl rfl (ex_leq rfl rfl) (WL.unguard rfl rfl (and_f hg_3).symm (WL.run hS rfl rfl rfl (ex_pick_t rfl hg_6 rfl) (WL.up (s := 15) rfl (and_t hg_6 : decide (c_1 ≤ (90 : Int)) = decide (((65 : Int) ≤ c_1) ∧ (c_1 ≤ (90 : Int)))) (WL.run hS rfl rfl rfl (ex_pick_f rfl (and_f hg_3).symm rfl) ?_)))))))
 refine WL.up (s := 16) rfl (or_f (and_f hg_3).symm : decide (((65 : Int) ≤ c_1) ∧ (c_1 ≤ (90 : Int))) = decide ((((97 : Int) ≤ c_1) ∧ (c_1 ≤ (122 : Int))) ∨ (((65 : Int) ≤ c_1) ∧ (c_1 ≤ (90 : Int))))) (WL.ma rfl rfl ?_)
 exact WL.nil (At.of ⟨rfl, trivial⟩)
 refine WL.skip_g rfl rfl rfl hg_6 rfl rfl (WL.skip_g rfl rfl rfl hg_6 rfl rfl (WL.unguard rfl rfl (and_f hg_3).symm (WL.run hS rfl rfl rfl (ex_pick_f rfl hg_6 rfl) (WL.up (s := 15) rfl (and_f hg_6 : false = decide (((65 : Int) ≤ c_1) ∧ (c_1 ≤ (90 : Int)))) (WL.run hS rfl rfl rfl (ex_pick_f rfl (and_f hg_3).symm rfl) (WL.up (s := 16) rfl (or_f (and_f hg_3).symm : decide (((65 : Int) ≤ c_1) ∧ (c_1 ≤ (90 : Int))) = decide ((((97 : Int) ≤ c_1) ∧ (c_1 ≤ (122 : Int))) ∨ (((65 : Int) ≤ c_1) ∧ (c_1 ≤ (90 : Int))))) (WL.ma rfl rfl ?_)))))))
 exact WL.nil (At.of ⟨rfl, trivial⟩)
 refine WQ.next (WC.ret ?_)
 exact leave1 rfl rfl (⟨decide ((((97 : Int) ≤ c_1) ∧ (c_1 ≤ (122 : Int))) ∨ (((65 : Int) ≤ c_1) ∧ (c_1 ≤ (90 : Int)))), hV, rfl, hS⟩)

theorem S_rDigit {w0 : World} {H : View} {L : Seg} {w : World} {c_1 : Int} {Q : Bool → Prop} (hr_2 : IntKind.u8.has c_1) (hS : St w0 H (L) w) (hV : V_rDigit c_1 Q) :
 Calls Tryz.prog 113 #[.int .u8 c_1] w fun e w' => ∃ (r1 : Bool), Q r1 ∧ e = .returned (.bool r1) ∧ St w0 H (L) w' := by
 unfold V_rDigit at hV
 refine enter Tryz.func113 rfl Tryz.ntmps113 rfl (lk_args_cons (d := 0) (v := .int .u8 c_1) rfl (lk_args_nil _)) (WC.sr (WL.ma rfl rfl (WL.nx (WC.seq ?_))))
 refine WC.via (m := [(2, .bool (decide (((48 : Int) ≤ c_1) ∧ (c_1 ≤ (57 : Int)))))]) ?_ ?_
 refine WC.region (WL.mv rfl rfl (WL.run hS rfl rfl rfl (ex_geq rfl rfl) (WL.mv rfl rfl ?_)))
 rcases Bool.eq_false_or_eq_true (decide ((48 : Int) ≤ c_1)) with hg_3 | hg_3
 refine WL.unguard rfl rfl hg_3 (WL.mv rfl rfl (WL.unguard rfl rfl hg_3 (WL.run hS rfl rfl rfl (ex_leq rfl rfl) (WL.run hS rfl rfl rfl (ex_pick_t rfl hg_3 rfl) (WL.up (s := 8) rfl (and_t hg_3 : decide (c_1 ≤ (57 : Int)) = decide (((48 : Int) ≤ c_1) ∧ (c_1 ≤ (57 : Int)))) (WL.ma rfl rfl ?_))))))
 exact WL.nil (At.of ⟨rfl, trivial⟩)
 refine WL.skip_g rfl rfl rfl hg_3 rfl rfl (WL.skip_g rfl rfl rfl hg_3 rfl rfl (WL.run hS rfl rfl rfl (ex_pick_f rfl hg_3 rfl) (WL.up (s := 8) rfl (and_f hg_3 : false = decide (((48 : Int) ≤ c_1) ∧ (c_1 ≤ (57 : Int)))) (WL.ma rfl rfl ?_))))
 exact WL.nil (At.of ⟨rfl, trivial⟩)
 refine WQ.next (WC.ret ?_)
 exact leave1 rfl rfl (⟨decide (((48 : Int) ≤ c_1) ∧ (c_1 ≤ (57 : Int))), hV, rfl, hS⟩)

theorem S_rInner {w0 : World} {H : View} {L : Seg} {w : World} {c_1 : Int} {Q : Bool → Prop} (hr_2 : IntKind.u8.has c_1) (hS : St w0 H (L) w) (hV : V_rInner c_1 Q) :
 Calls Tryz.prog 196 #[.int .u8 c_1] w fun e w' => ∃ (r1 : Bool), Q r1 ∧ e = .returned (.bool r1) ∧ St w0 H (L) w' := by
 unfold V_rInner at hV
 refine enter Tryz.func196 rfl Tryz.ntmps196 rfl (lk_args_cons (d := 0) (v := .int .u8 c_1) rfl (lk_args_nil _)) (WC.sr (WL.ma rfl rfl (WL.nx (WC.sr (WL.mv rfl rfl (WL.call rfl rfl rfl (enters0 (vs := [.int .u8 c_1]) Tryz.call115 ⟨rfl, trivial⟩) (S_rLetter hr_2 hS hV) ?_))))))
 clear hV hS
 rintro _ w ⟨r_3, hV, rfl, hS⟩
 refine ⟨_, rfl, ?_⟩
 refine WL.ma rfl rfl (WL.nx (WC.sr (WL.mv rfl rfl (WL.call rfl rfl rfl (enters0 (vs := [.int .u8 c_1]) Tryz.call113 ⟨rfl, trivial⟩) (S_rDigit hr_2 hS hV) ?_))))
 clear hV hS
 rintro _ w ⟨r_5, hV, rfl, hS⟩
 refine ⟨_, rfl, ?_⟩
 refine WL.ma rfl rfl (WL.nx (WC.seq ?_))
 refine WC.via (m := [(2, .bool (decide (((r_3 = true) ∨ (r_5 = true)) ∨ (c_1 = (95 : Int)))))]) ?_ ?_
 refine WC.region (WL.mv rfl rfl (WL.mv rfl rfl ?_))
 rcases Bool.eq_false_or_eq_true r_3 with hg_7 | hg_7
 refine WL.skip_g rfl rfl rfl hg_7 rfl rfl (WL.run hS rfl rfl rfl (ex_pick_t rfl hg_7 rfl) (WL.up (s := 12) rfl (or_t ((dec_true _).symm.trans hg_7) : true = decide ((r_3 = true) ∨ (r_5 = true))) (WL.mv rfl rfl (WL.skip_g rfl rfl rfl (or_t ((dec_true _).symm.trans hg_7)).symm rfl rfl (WL.skip_g rfl rfl rfl (or_t ((dec_true _).symm.trans hg_7)).symm rfl rfl (WL.run hS rfl rfl rfl (ex_pick_t rfl (or_t ((dec_true _).symm.trans hg_7)).symm rfl) (WL.up (s := 16) rfl (or_t (or_t ((dec_true _).symm.trans hg_7)).symm : true = decide (((r_3 = true) ∨ (r_5 = true)) ∨ (c_1 = (95 : Int)))) ?_)))))))
 refine WL.ma rfl rfl ?_
 exact WL.nil (At.of ⟨rfl, trivial⟩)
 refine WL.unguard rfl rfl hg_7 (WL.mv rfl rfl (WL.run hS rfl rfl rfl (ex_pick_f rfl hg_7 rfl) (WL.up (s := 12) rfl ((dec_true _).trans (or_f ((dec_true _).symm.trans hg_7) : decide (r_5 = true) = decide ((r_3 = true) ∨ (r_5 = true)))) (WL.mv rfl rfl ?_))))
 rcases Bool.eq_false_or_eq_true (decide ((r_3 = true) ∨ (r_5 = true))) with hg_8 | hg_8
 refine WL.skip_g rfl rfl rfl hg_8 rfl rfl (WL.skip_g rfl rfl rfl hg_8 rfl rfl (WL.run hS rfl rfl rfl (ex_pick_t rfl hg_8 rfl) (WL.up (s := 16) rfl (or_t hg_8 : true = decide (((r_3 = true) ∨ (r_5 = true)) ∨ (c_1 = (95 : Int)))) (WL.ma rfl rfl ?_))))
 exact WL.nil (At.of ⟨rfl, trivial⟩)
 refine WL.unguard rfl rfl hg_8 (WL.mv rfl rfl (WL.unguard rfl rfl hg_8 (WL.run hS rfl rfl rfl (ex_eql rfl rfl) (WL.run hS rfl rfl rfl (ex_pick_f rfl hg_8 rfl) (WL.up (s := 16) rfl (or_f hg_8 : decide (c_1 = (95 : Int)) = decide (((r_3 = true) ∨ (r_5 = true)) ∨ (c_1 = (95 : Int)))) (WL.ma rfl rfl ?_))))))
 exact WL.nil (At.of ⟨rfl, trivial⟩)
 refine WQ.next (WC.ret ?_)
 exact leave1 rfl rfl (⟨decide (((r_3 = true) ∨ (r_5 = true)) ∨ (c_1 = (95 : Int))), hV, rfl, hS⟩)

theorem S_rRun {w0 : World} {H : View} {L : Seg} {w : World} {s_1 : Str} {i_2 : Int} {Q : Int → Prop} (hr_3 : I64 i_2) (hS : St w0 H (L) w) (hV : V_rRun s_1 i_2 Q) :
 Calls Tryz.prog 112 #[sv s_1, i6 i_2] w fun e w' => ∃ (r1 : Int), Q r1 ∧ e = .returned (i6 r1) ∧ I64 r1 ∧ St w0 H (L) w' := by
 unfold V_rRun at hV
 refine enter Tryz.func112 rfl Tryz.ntmps112 rfl (lk_args_cons (d := 0) (v := sv s_1) rfl (lk_args_cons (d := 1) (v := i6 i_2) rfl (lk_args_nil _))) (WC.sr (WL.ma rfl rfl (WL.nx ?_)))
 obtain ⟨J_39, hJ_40, hV⟩ := hV
 refine WC.meet (fun a w => ∃ (i_37 : Int), J_39 i_37 ∧ I64 i_37 ∧ St w0 H (L) w ∧ Fr 19 [(1, i6 i_37)] a) ?_ ?_
 rintro a w ⟨i_37, hI, hr_38, hS, ha⟩
 refine in_frame ha ?_
 clear ha hV
 have hV := hJ_40 _ hI
 clear hI hJ_40
 refine WC.sr (WL.mv rfl rfl (WL.ma rfl rfl (WL.nx (WC.ret ?_))))
 exact leave1 rfl rfl (⟨i_37, hV, rfl, hr_38, hS⟩)
 clear hJ_40
 refine WC.block ?_
 obtain ⟨I_61, mu_62, hI_73, hV⟩ := hV
 refine WC.loop (σ := Int) (fun s a w => ∃ (i_50 : Int), s = i_50 ∧ I_61 i_50 ∧ I64 i_50 ∧ St w0 H (L) w ∧ Fr 19 [(0, sv s_1), (1, i6 i_50)] a) mu_62 i_2 ?_ ?_
 exact fun a ha => ⟨i_2, rfl, hI_73, hr_3, hS, ha.of_sub ⟨rfl, rfl, trivial⟩⟩
 clear hS hI_73
 rintro i_50 a w ⟨_, rfl, hI, hr_51, hS, ha⟩
 refine in_frame ha ?_
 clear ha
 replace hV := hV _ hI
 clear hI
 refine WC.seq (WC.sr (WL.mv rfl rfl (WL.mv rfl rfl ?_)))
 obtain ⟨hl_64, hV⟩ := hV
 refine WL.run hS rfl rfl rfl (ex_s_len Tryz.underlying9 rfl) (WL.run hS rfl rfl rfl (ex_lss rfl rfl) (WL.nx ?_))
 refine WC.cond rfl ?_ ?_
 intro hc_72
 replace hV := hV.1 (of_decide_eq_true hc_72)
 refine WC.skip (WQ.next (WC.block (WC.sr (WL.mv rfl rfl (WL.mv rfl rfl ?_)))))
 obtain ⟨hin_66, hV⟩ := hV
 refine WL.run hS rfl rfl rfl (ex_s_index Tryz.underlying9 rfl rfl hin_66) (WL.call rfl rfl rfl (enters0 (vs := [.int .u8 (byte s_1 i_50)]) Tryz.call196 ⟨rfl, trivial⟩) (S_rInner (byte_has (x := s_1) (i := i_50)) hS hV) ?_)
 clear hV hS
 rintro _ w ⟨r_67, hV, rfl, hS⟩
 refine ⟨_, rfl, ?_⟩
 refine WL.ma rfl rfl (WL.nx (WC.seq (WC.sr (WL.mv rfl rfl (WL.run hS rfl rfl rfl (ex_not rfl) (WL.nx (WC.sub (m := [(0, sv s_1), (1, i6 i_50), (15, .bool (!r_67))]) ⟨rfl, rfl, rfl, trivial⟩ ?_)))))))
 refine WC.cond rfl ?_ ?_
 intro hc_71
 replace hV := hV.1 hc_71
 refine WC.exit (WQ.pass nofun (WQ.by rfl (WQ.pass nofun (WQ.hit ?_))))
 exact WQ.there fun a ha => ⟨i_50, hV, hr_51, hS, ha.of_sub ⟨rfl, trivial⟩⟩
 intro hc_71
 replace hV := hV.2 hc_71
 refine WC.skip (WQ.next (WC.region (WL.mv rfl rfl ?_)))
 obtain ⟨hi_70, hV⟩ := hV
 refine WL.run hS rfl rfl rfl (ex_add rfl rfl hi_70) (WL.ma rfl rfl (WL.nil (WQ.out nofun ?_)))
 exact WQ.there fun a ha => ⟨(i_50 + (1 : Int)), ⟨(i_50 + (1 : Int)), rfl, hV.1, hi_70, hS, ha.of_sub ⟨rfl, rfl, trivial⟩⟩, hV.2⟩
 intro hc_72
 replace hV := hV.2 (of_decide_eq_false hc_72)
 refine WC.exit (WQ.pass nofun (WQ.pass nofun (WQ.hit ?_)))
 exact WQ.there fun a ha => ⟨i_50, hV, hr_51, hS, ha.of_sub ⟨rfl, trivial⟩⟩

theorem S_rQuoted {w0 : World} {H : View} {L : Seg} {w : World} {s_1 : Str} {i_2 : Int} {Q : Int → Prop} (hr_3 : I64 i_2) (hS : St w0 H (L) w) (hV : V_rQuoted s_1 i_2 Q) :
 Calls Tryz.prog 111 #[sv s_1, i6 i_2] w fun e w' => ∃ (r1 : Int), Q r1 ∧ e = .returned (i6 r1) ∧ I64 r1 ∧ St w0 H (L) w' := by
 unfold V_rQuoted at hV
 refine enter Tryz.func111 rfl Tryz.ntmps111 rfl (lk_args_cons (d := 0) (v := sv s_1) rfl (lk_args_cons (d := 1) (v := i6 i_2) rfl (lk_args_nil _))) (WC.sr (WL.ma rfl rfl (WL.nx (WC.seq (WC.sr (WL.mv rfl rfl ?_))))))
 obtain ⟨hi_5, hV⟩ := hV
 refine WL.run hS rfl rfl rfl (ex_add rfl rfl hi_5) (WL.ma rfl rfl (WL.nx (WC.block ?_)))
 obtain ⟨I_54, mu_55, hI_80, hV⟩ := hV
 refine WC.loop (σ := Int) (fun s a w => ∃ (k_29 : Int), s = k_29 ∧ I_54 k_29 ∧ I64 k_29 ∧ St w0 H (L) w ∧ Fr 36 [(0, sv s_1), (5, i6 k_29)] a) mu_55 (i_2 + (1 : Int)) ?_ ?_
 exact fun a ha => ⟨(i_2 + (1 : Int)), rfl, hI_80, hi_5, hS, ha.of_sub ⟨rfl, rfl, trivial⟩⟩
 clear hS hI_80
 rintro k_29 a w ⟨_, rfl, hI, hr_30, hS, ha⟩
 refine in_frame ha ?_
 clear ha
 replace hV := hV _ hI
 clear hI
 refine WC.seq (WC.sr (WL.mv rfl rfl (WL.mv rfl rfl ?_)))
 obtain ⟨hl_57, hV⟩ := hV
 refine WL.run hS rfl rfl rfl (ex_s_len Tryz.underlying9 rfl) (WL.run hS rfl rfl rfl (ex_lss rfl rfl) (WL.nx ?_))
 refine WC.cond rfl ?_ ?_
 intro hc_79
 replace hV := hV.1 (of_decide_eq_true hc_79)
 refine WC.skip (WQ.next (WC.seq (WC.block (WC.seq (WC.sr (WL.mv rfl rfl (WL.mv rfl rfl ?_)))))))
 obtain ⟨hin_59, hV⟩ := hV
 refine WL.run hS rfl rfl rfl (ex_s_index Tryz.underlying9 rfl rfl hin_59) (WL.run hS rfl rfl rfl (ex_eql rfl rfl) (WL.nx ?_))
 refine WC.cond rfl ?_ ?_
 intro hc_78
 replace hV := hV.1 (of_decide_eq_true hc_78)
 refine WC.sr (WL.mv rfl rfl ?_)
 obtain ⟨hi_61, hV⟩ := hV
 refine WL.run hS rfl rfl rfl (ex_add rfl rfl hi_61) (WL.ma rfl rfl (WL.nx (WC.sub (m := [(4, i6 (k_29 + (1 : Int)))]) ⟨rfl, trivial⟩ (WC.ret (WQ.pass nofun (WQ.out nofun (WQ.pass nofun ?_)))))))
 refine WQ.pass nofun (WQ.out nofun (WQ.pass nofun ?_))
 exact leave1 rfl rfl (⟨(k_29 + (1 : Int)), hV, rfl, hi_61, hS⟩)
 intro hc_78
 replace hV := hV.2 (of_decide_eq_false hc_78)
 refine WC.skip (WQ.next ?_)
 obtain ⟨J_68, hJ_69, hV⟩ := hV
 refine WC.meet (fun a w => ∃ (x_67 : Bool), J_68 x_67 ∧ St w0 H (L) w ∧ Fr 36 [(0, sv s_1), (5, i6 k_29), (35, .bool x_67)] a) ?_ ?_
 rintro a w ⟨x_67, hI, hS, ha⟩
 refine in_frame ha ?_
 clear ha hV
 have hV := hJ_69 _ hI
 clear hI hJ_69
 refine WC.cond rfl ?_ ?_
 intro hc_77
 replace hV := hV.1 hc_77
 refine WC.sr (WL.ma rfl rfl (WL.nx (WC.ret (WQ.out nofun (WQ.pass nofun (WQ.pass nofun (WQ.out nofun ?_)))))))
 refine WQ.pass nofun ?_
 exact leave1 rfl rfl (⟨(-1), hV, rfl, (show I64 ((-1) : Int) by unfold I64; omega), hS⟩)
 intro hc_77
 replace hV := hV.2 hc_77
 refine WC.skip (WQ.out nofun (WQ.next (WC.region (WL.mv rfl rfl ?_))))
 obtain ⟨hi_76, hV⟩ := hV
 refine WL.run hS rfl rfl rfl (ex_add rfl rfl hi_76) (WL.ma rfl rfl (WL.nil ?_))
 exact WQ.there fun a ha => ⟨(k_29 + (1 : Int)), ⟨(k_29 + (1 : Int)), rfl, hV.1, hi_76, hS, ha.of_sub ⟨rfl, rfl, trivial⟩⟩, hV.2⟩
 clear hJ_69
 refine WC.region (WL.mv rfl rfl (WL.mv rfl rfl ?_))
 obtain ⟨hin_70, hV⟩ := hV
 refine WL.run hS rfl rfl rfl (ex_s_index Tryz.underlying9 rfl rfl hin_70) (WL.run hS rfl rfl rfl (ex_lss rfl rfl) (WL.mv rfl rfl ?_))
 rcases Bool.eq_false_or_eq_true (decide ((byte s_1 k_29) < (32 : Int))) with hg_71 | hg_71
 replace hV := hV.1 (of_decide_eq_true hg_71)
 refine WL.skip_g rfl rfl rfl hg_71 rfl rfl (WL.skip_g rfl rfl rfl hg_71 rfl rfl (WL.skip_g rfl rfl rfl hg_71 rfl rfl (WL.skip_g rfl rfl rfl hg_71 rfl rfl (WL.run hS rfl rfl rfl (ex_pick_t rfl hg_71 rfl) (WL.mv rfl rfl (WL.skip_g rfl rfl rfl rfl rfl rfl (WL.skip_g rfl rfl rfl rfl rfl rfl ?_)))))))
 refine WL.skip_g rfl rfl rfl rfl rfl rfl (WL.skip_g rfl rfl rfl rfl rfl rfl (WL.run hS rfl rfl rfl (ex_pick_t rfl rfl rfl) (WL.nil ?_)))
 exact WQ.there fun a ha => ⟨true, hV, hS, ha.of_sub ⟨rfl, rfl, rfl, trivial⟩⟩
 replace hV := hV.2 (of_decide_eq_false hg_71)
 refine WL.unguard rfl rfl hg_71 (WL.mv rfl rfl (WL.unguard rfl rfl hg_71 (WL.mv rfl rfl (WL.unguard rfl rfl hg_71 ?_))))
 obtain ⟨hin_72, hV⟩ := hV
 refine WL.run hS rfl rfl rfl (ex_s_index Tryz.underlying9 rfl rfl hin_72) (WL.unguard rfl rfl hg_71 (WL.run hS rfl rfl rfl (ex_gtr rfl rfl) (WL.run hS rfl rfl rfl (ex_pick_f rfl hg_71 rfl) (WL.mv rfl rfl ?_))))
 rcases Bool.eq_false_or_eq_true (decide ((126 : Int) < (byte s_1 k_29))) with hg_73 | hg_73
 replace hV := hV.1 (of_decide_eq_true hg_73)
 refine WL.skip_g rfl rfl rfl hg_73 rfl rfl (WL.skip_g rfl rfl rfl hg_73 rfl rfl (WL.skip_g rfl rfl rfl hg_73 rfl rfl (WL.skip_g rfl rfl rfl hg_73 rfl rfl (WL.run hS rfl rfl rfl (ex_pick_t rfl hg_73 rfl) (WL.nil ?_)))))
 exact WQ.there fun a ha => ⟨true, hV, hS, ha.of_sub ⟨rfl, rfl, rfl, trivial⟩⟩
 replace hV := hV.2 (of_decide_eq_false hg_73)
 refine WL.unguard rfl rfl hg_73 (WL.mv rfl rfl (WL.unguard rfl rfl hg_73 (WL.mv rfl rfl (WL.unguard rfl rfl hg_73 ?_))))
 obtain ⟨hin_74, hV⟩ := hV
 refine WL.run hS rfl rfl rfl (ex_s_index Tryz.underlying9 rfl rfl hin_74) (WL.unguard rfl rfl hg_73 (WL.run hS rfl rfl rfl (ex_eql rfl rfl) (WL.run hS rfl rfl rfl (ex_pick_f rfl hg_73 rfl) (WL.nil ?_))))
 exact WQ.there fun a ha => ⟨decide ((byte s_1 k_29) = (92 : Int)), hV, hS, ha.of_sub ⟨rfl, rfl, rfl, trivial⟩⟩
 intro hc_79
 replace hV := hV.2 (of_decide_eq_false hc_79)
 refine WC.exit (WQ.pass nofun (WQ.pass nofun (WQ.hit (WQ.next (WC.sr (WL.ma rfl rfl (WL.nx ?_)))))))
 refine WC.ret ?_
 exact leave1 rfl rfl (⟨(-1), hV, rfl, (show I64 ((-1) : Int) by unfold I64; omega), hS⟩)

theorem S_rSize {w0 : World} {H : View} {L : Seg} {w : World} {s_1 : Str} {Q : Int → Bool → Prop}  (hS : St w0 H (L) w) (hV : V_rSize s_1 Q) :
 Calls Tryz.prog 197 #[sv s_1] w fun e w' => ∃ (r1 : Int) (r2 : Bool), Q r1 r2 ∧ e = .returned (.tuple #[.int .u64 r1, .bool r2]) ∧ IntKind.u64.has r1 ∧ St w0 H (L) w' := by
 unfold V_rSize at hV
 refine enter Tryz.func197 rfl Tryz.ntmps197 rfl (lk_args_cons (d := 0) (v := sv s_1) rfl (lk_args_nil _)) (WC.sr (WL.ma rfl rfl (WL.ma rfl rfl (WL.nx (WC.sr (WL.ma rfl rfl (WL.nx ?_)))))))
 refine WC.seq (WC.sr (WL.ma rfl rfl (WL.nx (WC.block ?_))))
 obtain ⟨I_22, mu_23, hI_33, hV⟩ := hV
 refine WC.loop (σ := Int × Int) (fun s a w => ∃ (n_10 : Int) (i_12 : Int), s = (n_10, i_12) ∧ I_22 (n_10, i_12) ∧ IntKind.u64.has n_10 ∧ I64 i_12 ∧ St w0 H (L) w ∧ Fr 28 [(0, sv s_1), (4, .int .u64 n_10), (5, i6 i_12)] a) mu_23 ((0 : Int), (0 : Int)) ?_ ?_
 exact fun a ha => ⟨(0 : Int), (0 : Int), rfl, hI_33, (has_u64 ⟨by omega, by omega⟩), (show I64 (0 : Int) by unfold I64; omega), hS, ha.of_sub ⟨rfl, rfl, rfl, trivial⟩⟩
 clear hS hI_33
 rintro _ a w ⟨n_10, i_12, rfl, hI, hr_11, hr_13, hS, ha⟩
 refine in_frame ha ?_
 clear ha
 replace hV := hV _ hI
 clear hI
 refine WC.seq (WC.sr (WL.mv rfl rfl (WL.mv rfl rfl ?_)))
 obtain ⟨hl_25, hV⟩ := hV
 refine WL.run hS rfl rfl rfl (ex_s_len Tryz.underlying9 rfl) (WL.run hS rfl rfl rfl (ex_lss rfl rfl) (WL.nx ?_))
 refine WC.cond rfl ?_ ?_
 intro hc_32
 replace hV := hV.1 (of_decide_eq_true hc_32)
 refine WC.skip (WQ.next (WC.seq (WC.block (WC.sr (WL.mv rfl rfl (WL.mv rfl rfl ?_))))))
 obtain ⟨hin_27, hV⟩ := hV
 refine WL.run hS rfl rfl rfl (ex_s_index Tryz.underlying9 rfl rfl hin_27) (WL.run hS rfl rfl rfl (ex_wrap_sub rfl rfl) (WL.run hS rfl rfl rfl (ex_conv_int Tryz.underlying5 Tryz.underlying115 rfl) (WL.ma rfl rfl (WL.nx (WC.seq (WC.sr (WL.mv rfl rfl ?_)))))))
 refine WL.mv rfl rfl (WL.run hS rfl rfl rfl (ex_wrap_sub rfl rfl) ?_)
 obtain ⟨hi_28, hV⟩ := hV
 refine WL.run hS rfl rfl rfl (ex_uquo rfl rfl (wrap_has _ _) hi_28) (WL.run hS rfl rfl rfl (ex_gtr rfl rfl) (WL.nx (WC.sub (m := [(0, sv s_1), (4, .int .u64 n_10), (5, i6 i_12), (6, .int .u64 (IntKind.u64.wrap (IntKind.u8.wrap ((byte s_1 i_12) - (48 : Int))))), (22, .bool (decide (((IntKind.u64.wrap ((9223372036854775808 : Int) - (IntKind.u64.wrap (IntKind.u8.wrap ((byte s_1 i_12) - (48 : Int)))))).tdiv (10 : Int)) < n_10)))]) ⟨rfl, rfl, rfl, rfl, rfl, trivial⟩ ?_)))
 refine WC.cond rfl ?_ ?_
 intro hc_31
 replace hV := hV.1 (of_decide_eq_true hc_31)
 refine WC.sr (WL.ma rfl rfl (WL.ma rfl rfl (WL.nx (WC.ret (WQ.pass nofun (WQ.out nofun (WQ.pass nofun ?_)))))))
 refine WQ.pass nofun (WQ.out nofun (WQ.pass nofun ?_))
 exact leave2 rfl rfl rfl (⟨(0 : Int), false, hV, rfl, (has_u64 ⟨by omega, by omega⟩), hS⟩)
 intro hc_31
 replace hV := hV.2 (of_decide_eq_false hc_31)
 refine WC.skip (WQ.next (WC.region (WL.mv rfl rfl (WL.run hS rfl rfl rfl (ex_wrap_mul rfl rfl) (WL.mv rfl rfl (WL.run hS rfl rfl rfl (ex_wrap_add rfl rfl) (WL.ma rfl rfl ?_)))))))
 refine WL.nil (WQ.out nofun (WQ.next (WC.region (WL.mv rfl rfl ?_))))
 obtain ⟨hi_30, hV⟩ := hV
 refine WL.run hS rfl rfl rfl (ex_add rfl rfl hi_30) (WL.ma rfl rfl (WL.nil ?_))
 exact WQ.there fun a ha => ⟨((IntKind.u64.wrap ((IntKind.u64.wrap (n_10 * (10 : Int))) + (IntKind.u64.wrap (IntKind.u8.wrap ((byte s_1 i_12) - (48 : Int)))))), (i_12 + (1 : Int))), ⟨(IntKind.u64.wrap ((IntKind.u64.wrap (n_10 * (10 : Int))) + (IntKind.u64.wrap (IntKind.u8.wrap ((byte s_1 i_12) - (48 : Int)))))), (i_12 + (1 : Int)), rfl, hV.1, (wrap_has _ _), hi_30, hS, ha.of_sub ⟨rfl, rfl, rfl, trivial⟩⟩, hV.2⟩
 intro hc_32
 replace hV := hV.2 (of_decide_eq_false hc_32)
 refine WC.exit (WQ.pass nofun (WQ.pass nofun (WQ.hit (WQ.next (WC.sr (WL.mv rfl rfl (WL.ma rfl rfl ?_)))))))
 refine WL.ma rfl rfl (WL.nx (WC.ret ?_))
 exact leave2 rfl rfl rfl (⟨n_10, true, hV, rfl, hr_11, hS⟩)

theorem S_rfail {w0 : World} {H : View} {L : Seg} {w : World} {b_2 : Nat} {s_4 : Str} {xat_5 : Int} {deep_7 : Int} {e_9 : Int} {bad_11 : Int} {heavy_13 : Bool} {e_14 : Int} {xat_16 : Int} {Q : Int → Int → Prop} (hr_6 : I64 xat_5) (hr_8 : I64 deep_7) (hr_10 : I64 e_9) (hr_12 : I64 bad_11) (hr_15 : I64 e_14) (hr_17 : I64 xat_16) (hS : St w0 H ([(b_2, oc #[sv s_4, i6 xat_5, i6 deep_7, i6 e_9, i6 bad_11, .bool heavy_13] 67)] ++ L) w) (hV : V_rfail s_4 xat_5 deep_7 e_9 bad_11 heavy_13 e_14 xat_16 Q) :
 Calls Tryz.prog 28 #[(pq b_2), i6 e_14, i6 xat_16] w fun e w' => ∃ (r1 : Int) (r2 : Int), Q r1 r2 ∧ e = .returned (.tuple #[]) ∧ I64 r1 ∧ I64 r2 ∧ St w0 H ([(b_2, oc #[sv s_4, i6 xat_5, i6 deep_7, i6 r1, i6 r2, .bool heavy_13] 67)] ++ L) w' := by
 unfold V_rfail at hV
 refine enter Tryz.func28 rfl Tryz.ntmps28 rfl (lk_args_cons (d := 0) (v := (pq b_2)) rfl (lk_args_cons (d := 1) (v := i6 e_14) rfl (lk_args_cons (d := 2) (v := i6 xat_16) rfl (lk_args_nil _)))) (WC.sr (WL.mv rfl rfl (WL.run hS rfl rfl rfl (ex_nilCheck rfl) (WL.run hS rfl rfl rfl (ex_fieldAddr (o' := 3) Tryz.underlying67 rfl Tryz.sizeOf3 rfl rfl) (WL.run hS rfl rfl rfl (ex_load_box Tryz.isAgg3 rfl rfl) (WL.run hS rfl rfl rfl (ex_eql rfl rfl) (WL.nx ?_)))))))
 refine WC.cond rfl ?_ ?_
 intro hc_19
 replace hV := hV.1 (of_decide_eq_true hc_19)
 refine WC.sr (WL.mv rfl rfl (WL.mv rfl rfl (WL.run hS rfl rfl rfl (ex_nilCheck rfl) (WL.run hS rfl rfl rfl (ex_fieldAddr (o' := 3) Tryz.underlying67 rfl Tryz.sizeOf3 rfl rfl) (WL.store_box (pre := [sv s_4, i6 xat_5, i6 deep_7]) (old := [i6 e_9]) (rst := [i6 bad_11, .bool heavy_13]) (cs := [i6 e_14]) (arr' := #[sv s_4, i6 xat_5, i6 deep_7, i6 e_14, i6 bad_11, .bool heavy_13]) Tryz.sizeOf3 rfl rfl rfl ⟨rfl, trivial⟩ rfl rfl rfl rfl hS ?_)))))
 clear hS
 intro w hS
 refine WL.nx (WC.sub (m := [(0, (pq b_2)), (2, i6 xat_16)]) ⟨rfl, rfl, trivial⟩ (WC.region (WL.mv rfl rfl (WL.mv rfl rfl (WL.run hS rfl rfl rfl (ex_nilCheck rfl) (WL.run hS rfl rfl rfl (ex_fieldAddr (o' := 4) Tryz.underlying67 rfl Tryz.sizeOf3 rfl rfl) (WL.store_box (pre := [sv s_4, i6 xat_5, i6 deep_7, i6 e_14]) (old := [i6 bad_11]) (rst := [.bool heavy_13]) (cs := [i6 xat_16]) (arr' := #[sv s_4, i6 xat_5, i6 deep_7, i6 e_14, i6 xat_16, .bool heavy_13]) Tryz.sizeOf3 rfl rfl rfl ⟨rfl, trivial⟩ rfl rfl rfl rfl hS ?_)))))))
 clear hS
 intro w hS
 refine WL.nil ?_
 exact leave0 (.inr rfl) rfl (⟨e_14, xat_16, hV, rfl, hr_15, hr_17, hS⟩)
 intro hc_19
 replace hV := hV.2 (of_decide_eq_false hc_19)
 refine WC.skip ?_
 exact leave0 (.inr rfl) rfl (⟨e_9, bad_11, hV, rfl, hr_10, hr_12, hS⟩)

theorem S_rskip {w0 : World} {H : View} {L : Seg} {w : World} {b_2 : Nat} {s_4 : Str} {xat_5 : Int} {deep_7 : Int} {e_9 : Int} {bad_11 : Int} {heavy_13 : Bool} {Q : Int → Prop} (hr_6 : I64 xat_5) (hr_8 : I64 deep_7) (hr_10 : I64 e_9) (hr_12 : I64 bad_11) (hS : St w0 H ([(b_2, oc #[sv s_4, i6 xat_5, i6 deep_7, i6 e_9, i6 bad_11, .bool heavy_13] 67)] ++ L) w) (hV : V_rskip s_4 xat_5 deep_7 e_9 bad_11 heavy_13 Q) :
 Calls Tryz.prog 27 #[(pq b_2)] w fun e w' => ∃ (r1 : Int), Q r1 ∧ e = .returned (.tuple #[]) ∧ I64 r1 ∧ St w0 H ([(b_2, oc #[sv s_4, i6 r1, i6 deep_7, i6 e_9, i6 bad_11, .bool heavy_13] 67)] ++ L) w' := by
 unfold V_rskip at hV
 refine enter Tryz.func27 rfl Tryz.ntmps27 rfl (lk_args_cons (d := 0) (v := (pq b_2)) rfl (lk_args_nil _)) (WC.block ?_)
 obtain ⟨I_60, mu_61, hI_85, hV⟩ := hV
 refine WC.loop (σ := Int) (fun s a w => ∃ (c_36 : Int), s = c_36 ∧ I_60 c_36 ∧ I64 c_36 ∧ St w0 H ([(b_2, oc #[sv s_4, i6 c_36, i6 deep_7, i6 e_9, i6 bad_11, .bool heavy_13] 67)] ++ L) w ∧ Fr 56 [(0, (pq b_2))] a) mu_61 xat_5 ?_ ?_
 exact fun a ha => ⟨xat_5, rfl, hI_85, hr_6, hS, ha.of_sub ⟨rfl, trivial⟩⟩
 clear hS hI_85
 rintro c_36 a w ⟨_, rfl, hI, hr_37, hS, ha⟩
 refine in_frame ha ?_
 clear ha
 replace hV := hV _ hI
 clear hI
 refine WC.seq ?_
 obtain ⟨J_72, hJ_73, hV⟩ := hV
 refine WC.meet (fun a w => ∃ (x_71 : Bool), J_72 x_71 ∧ St w0 H ([(b_2, oc #[sv s_4, i6 c_36, i6 deep_7, i6 e_9, i6 bad_11, .bool heavy_13] 67)] ++ L) w ∧ Fr 56 [(0, (pq b_2)), (47, .bool x_71)] a) ?_ ?_
 rintro a w ⟨x_71, hI, hS, ha⟩
 refine in_frame ha ?_
 clear ha hV
 have hV := hJ_73 _ hI
 clear hI hJ_73
 refine WC.cond rfl ?_ ?_
 intro hc_84
 replace hV := hV.1 hc_84
 refine WC.skip (WQ.next (WC.block (WC.region (WL.mv rfl rfl (WL.mv rfl rfl (WL.run hS rfl rfl rfl (ex_nilCheck rfl) (WL.run hS rfl rfl rfl (ex_fieldAddr (o' := 1) Tryz.underlying67 rfl Tryz.sizeOf3 rfl rfl) ?_)))))))
 refine WL.run hS rfl rfl rfl (ex_load_box Tryz.isAgg3 rfl rfl) ?_
 obtain ⟨hi_83, hV⟩ := hV
 refine WL.run hS rfl rfl rfl (ex_add rfl rfl hi_83) (WL.run hS rfl rfl rfl (ex_nilCheck rfl) (WL.run hS rfl rfl rfl (ex_fieldAddr (o' := 1) Tryz.underlying67 rfl Tryz.sizeOf3 rfl rfl) (WL.store_box (pre := [sv s_4]) (old := [i6 c_36]) (rst := [i6 deep_7, i6 e_9, i6 bad_11, .bool heavy_13]) (cs := [i6 (c_36 + (1 : Int))]) (arr' := #[sv s_4, i6 (c_36 + (1 : Int)), i6 deep_7, i6 e_9, i6 bad_11, .bool heavy_13]) Tryz.sizeOf3 rfl rfl rfl ⟨rfl, trivial⟩ rfl rfl rfl rfl hS ?_)))
 clear hS
 intro w hS
 refine WL.nil (WQ.out nofun ?_)
 exact WQ.there fun a ha => ⟨(c_36 + (1 : Int)), ⟨(c_36 + (1 : Int)), rfl, hV.1, hi_83, hS, ha.of_sub ⟨rfl, trivial⟩⟩, hV.2⟩
 intro hc_84
 replace hV := hV.2 hc_84
 refine WC.exit (WQ.pass nofun (WQ.pass nofun (WQ.hit ?_)))
 exact leave0 (.inr rfl) rfl (⟨c_36, hV, rfl, hr_37, hS⟩)
 clear hJ_73
 refine WC.quiet (C := St w0 H ([(b_2, oc #[sv s_4, i6 c_36, i6 deep_7, i6 e_9, i6 bad_11, .bool heavy_13] 67)] ++ L)) Tryz.mixed (by kernel_rfl) (hS.drawn _) ?_
 clear hS w
 refine Wq.run rfl rfl rfl (ex_move rfl) (Wq.run rfl rfl rfl (ex_nilCheck rfl) (Wq.run rfl rfl rfl (ex_fieldAddr (o' := 1) Tryz.underlying67 rfl Tryz.sizeOf3 rfl rfl) (Wq.run rfl rfl rfl (ex_load_box Tryz.isAgg3 rfl rfl) (Wq.run rfl rfl rfl (ex_move rfl) (Wq.run rfl rfl rfl (ex_nilCheck rfl) (Wq.run rfl rfl rfl (ex_fieldAddr (o' := 0) Tryz.underlying67 rfl Tryz.sizeOf9 rfl rfl) (Wq.run rfl rfl rfl (ex_load_box Tryz.isAgg9 rfl rfl) ?_)))))))
 obtain ⟨hl_74, hV⟩ := hV
 refine Wq.run rfl rfl rfl (ex_s_len Tryz.underlying9 rfl) (Wq.run rfl rfl rfl (ex_lss rfl rfl) (Wq.run rfl rfl rfl (ex_move rfl) ?_))
 rcases Bool.eq_false_or_eq_true (decide (c_36 < (s_4.length : Int))) with hg_76 | hg_76
 replace hV := hV.1 (of_decide_eq_true hg_76)
 refine Wq.unguard rfl rfl hg_76 (Wq.run rfl rfl rfl (ex_move rfl) (Wq.unguard rfl rfl hg_76 (Wq.run rfl rfl rfl (ex_nilCheck rfl) (Wq.unguard rfl rfl hg_76 (Wq.run rfl rfl rfl (ex_fieldAddr (o' := 0) Tryz.underlying67 rfl Tryz.sizeOf9 rfl rfl) (Wq.unguard rfl rfl hg_76 (Wq.run rfl rfl rfl (ex_load_box Tryz.isAgg9 rfl rfl) ?_)))))))
 refine Wq.unguard rfl rfl hg_76 (Wq.run rfl rfl rfl (ex_move rfl) (Wq.unguard rfl rfl hg_76 (Wq.run rfl rfl rfl (ex_nilCheck rfl) (Wq.unguard rfl rfl hg_76 (Wq.run rfl rfl rfl (ex_fieldAddr (o' := 1) Tryz.underlying67 rfl Tryz.sizeOf3 rfl rfl) (Wq.unguard rfl rfl hg_76 (Wq.run rfl rfl rfl (ex_load_box Tryz.isAgg3 rfl rfl) ?_)))))))
 refine Wq.unguard rfl rfl hg_76 ?_
 obtain ⟨hin_77, hV⟩ := hV
 refine Wq.run rfl rfl rfl (ex_s_index Tryz.underlying9 rfl rfl hin_77) (Wq.unguard rfl rfl hg_76 (Wq.run rfl rfl rfl (ex_eql rfl rfl) (Wq.unguard rfl rfl hg_76 (Wq.run rfl rfl rfl (ex_move rfl) ?_))))
 rcases Bool.eq_false_or_eq_true (decide ((byte s_4 c_36) = (32 : Int))) with hg_78 | hg_78
 replace hV := hV.1 (of_decide_eq_true hg_78)
 refine Wq.skip_g rfl rfl rfl hg_78 rfl rfl (Wq.skip_g rfl rfl rfl hg_78 rfl rfl (Wq.skip_g rfl rfl rfl hg_78 rfl rfl (Wq.skip_g rfl rfl rfl hg_78 rfl rfl (Wq.skip_g rfl rfl rfl hg_78 rfl rfl (Wq.skip_g rfl rfl rfl hg_78 rfl rfl (Wq.skip_g rfl rfl rfl hg_78 rfl rfl (Wq.skip_g rfl rfl rfl hg_78 rfl rfl ?_)))))))
 refine Wq.skip_g rfl rfl rfl hg_78 rfl rfl (Wq.skip_g rfl rfl rfl hg_78 rfl rfl (Wq.unguard rfl rfl hg_76 (Wq.run rfl rfl rfl (ex_pick_t rfl hg_78 rfl) (Wq.unguard rfl rfl hg_76 (Wq.run rfl rfl rfl (ex_move rfl) (Wq.skip_g rfl rfl rfl rfl rfl rfl (Wq.skip_g rfl rfl rfl rfl rfl rfl ?_)))))))
 refine Wq.skip_g rfl rfl rfl rfl rfl rfl (Wq.skip_g rfl rfl rfl rfl rfl rfl (Wq.skip_g rfl rfl rfl rfl rfl rfl (Wq.skip_g rfl rfl rfl rfl rfl rfl (Wq.skip_g rfl rfl rfl rfl rfl rfl (Wq.skip_g rfl rfl rfl rfl rfl rfl (Wq.skip_g rfl rfl rfl rfl rfl rfl (Wq.skip_g rfl rfl rfl rfl rfl rfl ?_)))))))
 refine Wq.unguard rfl rfl hg_76 (Wq.run rfl rfl rfl (ex_pick_t rfl rfl rfl) (Wq.run rfl rfl rfl (ex_pick_t rfl hg_76 rfl) (Wq.nil fun w hS => ?_)))
 exact WQ.there fun a ha => ⟨true, hV, hS, ha.of_sub ⟨rfl, rfl, trivial⟩⟩
 replace hV := hV.2 (of_decide_eq_false hg_78)
 refine Wq.unguard rfl rfl hg_78 (Wq.run rfl rfl rfl (ex_move rfl) (Wq.unguard rfl rfl hg_78 (Wq.run rfl rfl rfl (ex_nilCheck rfl) (Wq.unguard rfl rfl hg_78 (Wq.run rfl rfl rfl (ex_fieldAddr (o' := 0) Tryz.underlying67 rfl Tryz.sizeOf9 rfl rfl) (Wq.unguard rfl rfl hg_78 (Wq.run rfl rfl rfl (ex_load_box Tryz.isAgg9 rfl rfl) ?_)))))))
 refine Wq.unguard rfl rfl hg_78 (Wq.run rfl rfl rfl (ex_move rfl) (Wq.unguard rfl rfl hg_78 (Wq.run rfl rfl rfl (ex_nilCheck rfl) (Wq.unguard rfl rfl hg_78 (Wq.run rfl rfl rfl (ex_fieldAddr (o' := 1) Tryz.underlying67 rfl Tryz.sizeOf3 rfl rfl) (Wq.unguard rfl rfl hg_78 (Wq.run rfl rfl rfl (ex_load_box Tryz.isAgg3 rfl rfl) ?_)))))))
 refine Wq.unguard rfl rfl hg_78 ?_
 obtain ⟨hin_79, hV⟩ := hV
 refine Wq.run rfl rfl rfl (ex_s_index Tryz.underlying9 rfl rfl hin_79) (Wq.unguard rfl rfl hg_78 (Wq.run rfl rfl rfl (ex_eql rfl rfl) (Wq.unguard rfl rfl hg_76 (Wq.run rfl rfl rfl (ex_pick_f rfl hg_78 rfl) (Wq.unguard rfl rfl hg_76 (Wq.run rfl rfl rfl (ex_move rfl) ?_))))))
 rcases Bool.eq_false_or_eq_true (decide ((byte s_4 c_36) = (9 : Int))) with hg_80 | hg_80
 replace hV := hV.1 (of_decide_eq_true hg_80)
 refine Wq.skip_g rfl rfl rfl hg_80 rfl rfl (Wq.skip_g rfl rfl rfl hg_80 rfl rfl (Wq.skip_g rfl rfl rfl hg_80 rfl rfl (Wq.skip_g rfl rfl rfl hg_80 rfl rfl (Wq.skip_g rfl rfl rfl hg_80 rfl rfl (Wq.skip_g rfl rfl rfl hg_80 rfl rfl (Wq.skip_g rfl rfl rfl hg_80 rfl rfl (Wq.skip_g rfl rfl rfl hg_80 rfl rfl ?_)))))))
 refine Wq.skip_g rfl rfl rfl hg_80 rfl rfl (Wq.skip_g rfl rfl rfl hg_80 rfl rfl (Wq.unguard rfl rfl hg_76 (Wq.run rfl rfl rfl (ex_pick_t rfl hg_80 rfl) (Wq.run rfl rfl rfl (ex_pick_t rfl hg_76 rfl) (Wq.nil fun w hS => ?_)))))
 exact WQ.there fun a ha => ⟨true, hV, hS, ha.of_sub ⟨rfl, rfl, trivial⟩⟩
 replace hV := hV.2 (of_decide_eq_false hg_80)
 refine Wq.unguard rfl rfl hg_80 (Wq.run rfl rfl rfl (ex_move rfl) (Wq.unguard rfl rfl hg_80 (Wq.run rfl rfl rfl (ex_nilCheck rfl) (Wq.unguard rfl rfl hg_80 (Wq.run rfl rfl rfl (ex_fieldAddr (o' := 0) Tryz.underlying67 rfl Tryz.sizeOf9 rfl rfl) (Wq.unguard rfl rfl hg_80 (Wq.run rfl rfl rfl (ex_load_box Tryz.isAgg9 rfl rfl) ?_)))))))
 refine Wq.unguard rfl rfl hg_80 (Wq.run rfl rfl rfl (ex_move rfl) (Wq.unguard rfl rfl hg_80 (Wq.run rfl rfl rfl (ex_nilCheck rfl) (Wq.unguard rfl rfl hg_80 (Wq.run rfl rfl rfl (ex_fieldAddr (o' := 1) Tryz.underlying67 rfl Tryz.sizeOf3 rfl rfl) (Wq.unguard rfl rfl hg_80 (Wq.run rfl rfl rfl (ex_load_box Tryz.isAgg3 rfl rfl) ?_)))))))
 refine Wq.unguard rfl rfl hg_80 ?_
 obtain ⟨hin_81, hV⟩ := hV
 refine Wq.run rfl rfl rfl (ex_s_index Tryz.underlying9 rfl rfl hin_81) (Wq.unguard rfl rfl hg_80 (Wq.run rfl rfl rfl (ex_eql rfl rfl) (Wq.unguard rfl rfl hg_76 (Wq.run rfl rfl rfl (ex_pick_f rfl hg_80 rfl) (Wq.run rfl rfl rfl (ex_pick_t rfl hg_76 rfl) (Wq.nil fun w hS => ?_))))))
 exact WQ.there fun a ha => ⟨decide ((byte s_4 c_36) = (10 : Int)), hV, hS, ha.of_sub ⟨rfl, rfl, trivial⟩⟩
 replace hV := hV.2 (of_decide_eq_false hg_76)
 refine Wq.skip_g rfl rfl rfl hg_76 rfl rfl (Wq.skip_g rfl rfl rfl hg_76 rfl rfl (Wq.skip_g rfl rfl rfl hg_76 rfl rfl (Wq.skip_g rfl rfl rfl hg_76 rfl rfl (Wq.skip_g rfl rfl rfl hg_76 rfl rfl (Wq.skip_g rfl rfl rfl hg_76 rfl rfl (Wq.skip_g rfl rfl rfl hg_76 rfl rfl (Wq.skip_g rfl rfl rfl hg_76 rfl rfl ?_)))))))
 refine Wq.skip_g rfl rfl rfl hg_76 rfl rfl (Wq.skip_g rfl rfl rfl hg_76 rfl rfl (Wq.skip_g rfl rfl rfl hg_76 rfl rfl (Wq.skip_u rfl rfl rfl rfl rfl (Wq.skip_u rfl rfl rfl rfl rfl (Wq.skip_u rfl rfl rfl rfl rfl (Wq.skip_u rfl rfl rfl rfl rfl (Wq.skip_u rfl rfl rfl rfl rfl ?_)))))))
 refine Wq.skip_u rfl rfl rfl rfl rfl (Wq.skip_u rfl rfl rfl rfl rfl (Wq.skip_u rfl rfl rfl rfl rfl (Wq.skip_u rfl rfl rfl rfl rfl (Wq.skip_u rfl rfl rfl rfl rfl (Wq.skip_g rfl rfl rfl hg_76 rfl rfl (Wq.skip_g rfl rfl rfl hg_76 rfl rfl (Wq.skip_u rfl rfl rfl rfl rfl ?_)))))))
 refine Wq.skip_u rfl rfl rfl rfl rfl (Wq.skip_u rfl rfl rfl rfl rfl (Wq.skip_u rfl rfl rfl rfl rfl (Wq.skip_u rfl rfl rfl rfl rfl (Wq.skip_u rfl rfl rfl rfl rfl (Wq.skip_u rfl rfl rfl rfl rfl (Wq.skip_u rfl rfl rfl rfl rfl (Wq.skip_u rfl rfl rfl rfl rfl ?_)))))))
 refine Wq.skip_u rfl rfl rfl rfl rfl (Wq.skip_g rfl rfl rfl hg_76 rfl rfl (Wq.run rfl rfl rfl (ex_pick_f rfl hg_76 rfl) (Wq.nil fun w hS => ?_)))
 exact WQ.there fun a ha => ⟨false, hV, hS, ha.of_sub ⟨rfl, rfl, trivial⟩⟩

theorem S_rsign {w0 : World} {H : View} {L : Seg} {w : World} {b_2 : Nat} {s_4 : Str} {xat_5 : Int} {deep_7 : Int} {e_9 : Int} {bad_11 : Int} {heavy_13 : Bool} {t_14 : Str} {Q : Bool → Int → Prop} (hr_6 : I64 xat_5) (hr_8 : I64 deep_7) (hr_10 : I64 e_9) (hr_12 : I64 bad_11) (hS : St w0 H ([(b_2, oc #[sv s_4, i6 xat_5, i6 deep_7, i6 e_9, i6 bad_11, .bool heavy_13] 67)] ++ L) w) (hV : V_rsign s_4 xat_5 deep_7 e_9 bad_11 heavy_13 t_14 Q) :
 Calls Tryz.prog 68 #[(pq b_2), sv t_14] w fun e w' => ∃ (r1 : Bool) (r2 : Int), Q r1 r2 ∧ e = .returned (.bool r1) ∧ I64 r2 ∧ St w0 H ([(b_2, oc #[sv s_4, i6 r2, i6 deep_7, i6 e_9, i6 bad_11, .bool heavy_13] 67)] ++ L) w' := by
 unfold V_rsign at hV
 refine enter Tryz.func68 rfl Tryz.ntmps68 rfl (lk_args_cons (d := 0) (v := (pq b_2)) rfl (lk_args_cons (d := 1) (v := sv t_14) rfl (lk_args_nil _))) (WC.sr (WL.ma rfl rfl (WL.nx (WC.sr (WL.mv rfl rfl (WL.call rfl rfl rfl (enters0 (vs := [(pq b_2)]) Tryz.call27 ⟨rfl, trivial⟩) (S_rskip hr_6 hr_8 hr_10 hr_12 hS hV) ?_))))))
 clear hV hS
 rintro _ w ⟨r_15, hV, rfl, hr_16, hS⟩
 refine ⟨_, rfl, ?_⟩
 refine WL.nx (WC.seq ?_)
 obtain ⟨J_31, hJ_32, hV⟩ := hV
 refine WC.meet (fun a w => ∃ (x_30 : Bool), J_31 x_30 ∧ St w0 H ([(b_2, oc #[sv s_4, i6 r_15, i6 deep_7, i6 e_9, i6 bad_11, .bool heavy_13] 67)] ++ L) w ∧ Fr 57 [(0, (pq b_2)), (1, sv t_14), (46, .bool x_30)] a) ?_ ?_
 rintro a w ⟨x_30, hI, hS, ha⟩
 refine in_frame ha ?_
 clear ha hV
 have hV := hJ_32 _ hI
 clear hI hJ_32
 refine WC.cond rfl ?_ ?_
 intro hc_48
 replace hV := hV.1 hc_48
 refine WC.sr (WL.ma rfl rfl (WL.nx (WC.ret (WQ.pass nofun ?_))))
 exact leave1 rfl rfl (⟨false, r_15, hV, rfl, hr_16, hS⟩)
 intro hc_48
 replace hV := hV.2 hc_48
 refine WC.skip (WQ.next (WC.sr (WL.mv rfl rfl (WL.mv rfl rfl (WL.run hS rfl rfl rfl (ex_nilCheck rfl) (WL.run hS rfl rfl rfl (ex_fieldAddr (o' := 1) Tryz.underlying67 rfl Tryz.sizeOf3 rfl rfl) (WL.run hS rfl rfl rfl (ex_load_box Tryz.isAgg3 rfl rfl) ?_)))))))
 refine WL.mv rfl rfl ?_
 obtain ⟨hl_45, hV⟩ := hV
 refine WL.run hS rfl rfl rfl (ex_s_len Tryz.underlying9 rfl) ?_
 obtain ⟨hi_47, hV⟩ := hV
 refine WL.run hS rfl rfl rfl (ex_add rfl rfl hi_47) (WL.run hS rfl rfl rfl (ex_nilCheck rfl) (WL.run hS rfl rfl rfl (ex_fieldAddr (o' := 1) Tryz.underlying67 rfl Tryz.sizeOf3 rfl rfl) (WL.store_box (pre := [sv s_4]) (old := [i6 r_15]) (rst := [i6 deep_7, i6 e_9, i6 bad_11, .bool heavy_13]) (cs := [i6 (r_15 + (t_14.length : Int))]) (arr' := #[sv s_4, i6 (r_15 + (t_14.length : Int)), i6 deep_7, i6 e_9, i6 bad_11, .bool heavy_13]) Tryz.sizeOf3 rfl rfl rfl ⟨rfl, trivial⟩ rfl rfl rfl rfl hS ?_)))
 clear hS
 intro w hS
 refine WL.nx (WC.sub (m := []) trivial (WC.sr (WL.ma rfl rfl (WL.nx (WC.ret ?_)))))
 exact leave1 rfl rfl (⟨true, (r_15 + (t_14.length : Int)), hV, rfl, hi_47, hS⟩)
 clear hJ_32
 refine WC.quiet (C := St w0 H ([(b_2, oc #[sv s_4, i6 r_15, i6 deep_7, i6 e_9, i6 bad_11, .bool heavy_13] 67)] ++ L)) Tryz.mixed (by kernel_rfl) (hS.drawn _) ?_
 clear hS w
 refine Wq.run rfl rfl rfl (ex_move rfl) (Wq.run rfl rfl rfl (ex_nilCheck rfl) (Wq.run rfl rfl rfl (ex_fieldAddr (o' := 3) Tryz.underlying67 rfl Tryz.sizeOf3 rfl rfl) (Wq.run rfl rfl rfl (ex_load_box Tryz.isAgg3 rfl rfl) (Wq.run rfl rfl rfl (ex_neq rfl rfl) (Wq.run rfl rfl rfl (ex_move rfl) ?_)))))
 rcases Bool.eq_false_or_eq_true (decide (e_9 ≠ (0 : Int))) with hg_34 | hg_34
 replace hV := hV.1 (of_decide_eq_true hg_34)
 refine Wq.skip_g rfl rfl rfl hg_34 rfl rfl (Wq.skip_g rfl rfl rfl hg_34 rfl rfl (Wq.skip_g rfl rfl rfl hg_34 rfl rfl (Wq.skip_g rfl rfl rfl hg_34 rfl rfl (Wq.skip_g rfl rfl rfl hg_34 rfl rfl (Wq.skip_g rfl rfl rfl hg_34 rfl rfl (Wq.skip_g rfl rfl rfl hg_34 rfl rfl (Wq.skip_g rfl rfl rfl hg_34 rfl rfl ?_)))))))
 refine Wq.skip_g rfl rfl rfl hg_34 rfl rfl (Wq.skip_g rfl rfl rfl hg_34 rfl rfl (Wq.skip_g rfl rfl rfl hg_34 rfl rfl (Wq.skip_g rfl rfl rfl hg_34 rfl rfl (Wq.skip_g rfl rfl rfl hg_34 rfl rfl (Wq.run rfl rfl rfl (ex_pick_t rfl hg_34 rfl) (Wq.run rfl rfl rfl (ex_move rfl) (Wq.skip_g rfl rfl rfl rfl rfl rfl ?_)))))))
 refine Wq.skip_g rfl rfl rfl rfl rfl rfl (Wq.skip_g rfl rfl rfl rfl rfl rfl (Wq.skip_g rfl rfl rfl rfl rfl rfl (Wq.skip_g rfl rfl rfl rfl rfl rfl (Wq.skip_g rfl rfl rfl rfl rfl rfl (Wq.skip_g rfl rfl rfl rfl rfl rfl (Wq.skip_g rfl rfl rfl rfl rfl rfl (Wq.skip_g rfl rfl rfl rfl rfl rfl ?_)))))))
 refine Wq.skip_g rfl rfl rfl rfl rfl rfl (Wq.skip_g rfl rfl rfl rfl rfl rfl (Wq.skip_g rfl rfl rfl rfl rfl rfl (Wq.skip_g rfl rfl rfl rfl rfl rfl (Wq.skip_g rfl rfl rfl rfl rfl rfl (Wq.skip_g rfl rfl rfl rfl rfl rfl (Wq.skip_g rfl rfl rfl rfl rfl rfl (Wq.skip_g rfl rfl rfl rfl rfl rfl ?_)))))))
 refine Wq.skip_g rfl rfl rfl rfl rfl rfl (Wq.run rfl rfl rfl (ex_pick_t rfl rfl rfl) (Wq.nil fun w hS => ?_))
 exact WQ.there fun a ha => ⟨true, hV, hS, ha.of_sub ⟨rfl, rfl, rfl, trivial⟩⟩
 replace hV := hV.2 (of_decide_eq_false hg_34)
 refine Wq.unguard rfl rfl hg_34 (Wq.run rfl rfl rfl (ex_move rfl) (Wq.unguard rfl rfl hg_34 (Wq.run rfl rfl rfl (ex_nilCheck rfl) (Wq.unguard rfl rfl hg_34 (Wq.run rfl rfl rfl (ex_fieldAddr (o' := 0) Tryz.underlying67 rfl Tryz.sizeOf9 rfl rfl) (Wq.unguard rfl rfl hg_34 (Wq.run rfl rfl rfl (ex_load_box Tryz.isAgg9 rfl rfl) ?_)))))))
 refine Wq.unguard rfl rfl hg_34 ?_
 obtain ⟨hl_35, hV⟩ := hV
 refine Wq.run rfl rfl rfl (ex_s_len Tryz.underlying9 rfl) (Wq.unguard rfl rfl hg_34 (Wq.run rfl rfl rfl (ex_move rfl) (Wq.unguard rfl rfl hg_34 (Wq.run rfl rfl rfl (ex_nilCheck rfl) (Wq.unguard rfl rfl hg_34 (Wq.run rfl rfl rfl (ex_fieldAddr (o' := 1) Tryz.underlying67 rfl Tryz.sizeOf3 rfl rfl) (Wq.unguard rfl rfl hg_34 ?_)))))))
 refine Wq.run rfl rfl rfl (ex_load_box Tryz.isAgg3 rfl rfl) (Wq.unguard rfl rfl hg_34 ?_)
 obtain ⟨hi_37, hV⟩ := hV
 refine Wq.run rfl rfl rfl (ex_sub rfl rfl hi_37) (Wq.unguard rfl rfl hg_34 (Wq.run rfl rfl rfl (ex_move rfl) (Wq.unguard rfl rfl hg_34 ?_)))
 obtain ⟨hl_38, hV⟩ := hV
 refine Wq.run rfl rfl rfl (ex_s_len Tryz.underlying9 rfl) (Wq.unguard rfl rfl hg_34 (Wq.run rfl rfl rfl (ex_lss rfl rfl) (Wq.run rfl rfl rfl (ex_pick_f rfl hg_34 rfl) (Wq.run rfl rfl rfl (ex_move rfl) ?_))))
 rcases Bool.eq_false_or_eq_true (decide (((s_4.length : Int) - r_15) < (t_14.length : Int))) with hg_40 | hg_40
 replace hV := hV.1 (of_decide_eq_true hg_40)
 refine Wq.skip_g rfl rfl rfl hg_40 rfl rfl (Wq.skip_g rfl rfl rfl hg_40 rfl rfl (Wq.skip_g rfl rfl rfl hg_40 rfl rfl (Wq.skip_g rfl rfl rfl hg_40 rfl rfl (Wq.skip_g rfl rfl rfl hg_40 rfl rfl (Wq.skip_g rfl rfl rfl hg_40 rfl rfl (Wq.skip_g rfl rfl rfl hg_40 rfl rfl (Wq.skip_g rfl rfl rfl hg_40 rfl rfl ?_)))))))
 refine Wq.skip_g rfl rfl rfl hg_40 rfl rfl (Wq.skip_g rfl rfl rfl hg_40 rfl rfl (Wq.skip_g rfl rfl rfl hg_40 rfl rfl (Wq.skip_g rfl rfl rfl hg_40 rfl rfl (Wq.skip_g rfl rfl rfl hg_40 rfl rfl (Wq.skip_g rfl rfl rfl hg_40 rfl rfl (Wq.skip_g rfl rfl rfl hg_40 rfl rfl (Wq.skip_g rfl rfl rfl hg_40 rfl rfl ?_)))))))
 refine Wq.skip_g rfl rfl rfl hg_40 rfl rfl (Wq.skip_g rfl rfl rfl hg_40 rfl rfl (Wq.run rfl rfl rfl (ex_pick_t rfl hg_40 rfl) (Wq.nil fun w hS => ?_)))
 exact WQ.there fun a ha => ⟨true, hV, hS, ha.of_sub ⟨rfl, rfl, rfl, trivial⟩⟩
 replace hV := hV.2 (of_decide_eq_false hg_40)
 refine Wq.unguard rfl rfl hg_40 (Wq.run rfl rfl rfl (ex_move rfl) (Wq.unguard rfl rfl hg_40 (Wq.run rfl rfl rfl (ex_nilCheck rfl) (Wq.unguard rfl rfl hg_40 (Wq.run rfl rfl rfl (ex_fieldAddr (o' := 0) Tryz.underlying67 rfl Tryz.sizeOf9 rfl rfl) (Wq.unguard rfl rfl hg_40 (Wq.run rfl rfl rfl (ex_load_box Tryz.isAgg9 rfl rfl) ?_)))))))
 refine Wq.unguard rfl rfl hg_40 (Wq.run rfl rfl rfl (ex_move rfl) (Wq.unguard rfl rfl hg_40 (Wq.run rfl rfl rfl (ex_nilCheck rfl) (Wq.unguard rfl rfl hg_40 (Wq.run rfl rfl rfl (ex_fieldAddr (o' := 1) Tryz.underlying67 rfl Tryz.sizeOf3 rfl rfl) (Wq.unguard rfl rfl hg_40 (Wq.run rfl rfl rfl (ex_load_box Tryz.isAgg3 rfl rfl) ?_)))))))
 refine Wq.unguard rfl rfl hg_40 (Wq.run rfl rfl rfl (ex_move rfl) (Wq.unguard rfl rfl hg_40 (Wq.run rfl rfl rfl (ex_nilCheck rfl) (Wq.unguard rfl rfl hg_40 (Wq.run rfl rfl rfl (ex_fieldAddr (o' := 1) Tryz.underlying67 rfl Tryz.sizeOf3 rfl rfl) (Wq.unguard rfl rfl hg_40 (Wq.run rfl rfl rfl (ex_load_box Tryz.isAgg3 rfl rfl) ?_)))))))
 refine Wq.unguard rfl rfl hg_40 (Wq.run rfl rfl rfl (ex_move rfl) (Wq.unguard rfl rfl hg_40 ?_))
 obtain ⟨hl_41, hV⟩ := hV
 refine Wq.run rfl rfl rfl (ex_s_len Tryz.underlying9 rfl) (Wq.unguard rfl rfl hg_40 ?_)
 obtain ⟨hi_43, hV⟩ := hV
 refine Wq.run rfl rfl rfl (ex_add rfl rfl hi_43) (Wq.unguard rfl rfl hg_40 ?_)
 obtain ⟨hb_44, hV⟩ := hV
 refine Wq.run rfl rfl rfl (ex_s_lohi Tryz.underlying9 rfl rfl rfl hb_44) (Wq.unguard rfl rfl hg_40 (Wq.run rfl rfl rfl (ex_move rfl) (Wq.unguard rfl rfl hg_40 (Wq.run rfl rfl rfl (ex_s_neq rfl rfl) (Wq.run rfl rfl rfl (ex_pick_f rfl hg_40 rfl) (Wq.nil fun w hS => ?_))))))
 exact WQ.there fun a ha => ⟨decide (((s_4.take (r_15 + (t_14.length : Int)).toNat).drop r_15.toNat) ≠ t_14), hV, hS, ha.of_sub ⟨rfl, rfl, rfl, trivial⟩⟩

theorem S_rwant {w0 : World} {H : View} {L : Seg} {w : World} {b_2 : Nat} {s_4 : Str} {xat_5 : Int} {deep_7 : Int} {e_9 : Int} {bad_11 : Int} {heavy_13 : Bool} {t_14 : Str} {Q : Int → Int → Int → Prop} (hr_6 : I64 xat_5) (hr_8 : I64 deep_7) (hr_10 : I64 e_9) (hr_12 : I64 bad_11) (hS : St w0 H ([(b_2, oc #[sv s_4, i6 xat_5, i6 deep_7, i6 e_9, i6 bad_11, .bool heavy_13] 67)] ++ L) w) (hV : V_rwant s_4 xat_5 deep_7 e_9 bad_11 heavy_13 t_14 Q) :
 Calls Tryz.prog 110 #[(pq b_2), sv t_14] w fun e w' => ∃ (r1 : Int) (r2 : Int) (r3 : Int), Q r1 r2 r3 ∧ e = .returned (.tuple #[]) ∧ I64 r1 ∧ I64 r2 ∧ I64 r3 ∧ St w0 H ([(b_2, oc #[sv s_4, i6 r1, i6 deep_7, i6 r2, i6 r3, .bool heavy_13] 67)] ++ L) w' := by
 unfold V_rwant at hV
 refine enter Tryz.func110 rfl Tryz.ntmps110 rfl (lk_args_cons (d := 0) (v := (pq b_2)) rfl (lk_args_cons (d := 1) (v := sv t_14) rfl (lk_args_nil _))) (WC.sr (WL.mv rfl rfl (WL.mv rfl rfl (WL.call rfl rfl rfl (enters0 (vs := [(pq b_2), sv t_14]) Tryz.call68 ⟨rfl, rfl, trivial⟩) (S_rsign hr_6 hr_8 hr_10 hr_12 hS hV) ?_))))
 clear hV hS
 rintro _ w ⟨r_15, r_16, hV, rfl, hr_17, hS⟩
 refine ⟨_, rfl, ?_⟩
 refine WL.ma rfl rfl (WL.nx (WC.sr (WL.mv rfl rfl (WL.run hS rfl rfl rfl (ex_not rfl) (WL.nx ?_)))))
 refine WC.cond rfl ?_ ?_
 intro hc_24
 replace hV := hV.1 hc_24
 refine WC.region (WL.mv rfl rfl (WL.mv rfl rfl (WL.run hS rfl rfl rfl (ex_nilCheck rfl) (WL.run hS rfl rfl rfl (ex_fieldAddr (o' := 1) Tryz.underlying67 rfl Tryz.sizeOf3 rfl rfl) (WL.run hS rfl rfl rfl (ex_load_box Tryz.isAgg3 rfl rfl) (WL.call rfl rfl rfl (enters0 (vs := [(pq b_2), i6 (1 : Int), i6 r_16]) Tryz.call28 ⟨rfl, rfl, rfl, trivial⟩) (S_rfail hr_17 hr_8 hr_10 hr_12 (show I64 (1 : Int) by unfold I64; omega) hr_17 hS hV) ?_))))))
 clear hV hS
 rintro _ w ⟨r_19, r_21, hV, rfl, hr_20, hr_22, hS⟩
 refine ⟨_, rfl, ?_⟩
 refine WL.nil ?_
 exact leave0 (.inr rfl) rfl (⟨r_16, r_19, r_21, hV, rfl, hr_17, hr_20, hr_22, hS⟩)
 intro hc_24
 replace hV := hV.2 hc_24
 refine WC.skip ?_
 exact leave0 (.inr rfl) rfl (⟨r_16, e_9, bad_11, hV, rfl, hr_17, hr_10, hr_12, hS⟩)

theorem S_rlight {w0 : World} {H : View} {L : Seg} {w : World} {b_2 : Nat} {s_4 : Str} {xat_5 : Int} {deep_7 : Int} {e_9 : Int} {bad_11 : Int} {heavy_13 : Bool} {v_14 : RV} {v_15 : Value} {v_16 : Value} {Q : RV → Bool → Prop} (hr_6 : I64 xat_5) (hr_8 : I64 deep_7) (hr_10 : I64 e_9) (hr_12 : I64 bad_11) (hr_17 : I64 v_14.k) (hr_18 : I64 v_14.i) (h_19 : IsSl H cR v_15 v_14.ks) (h_20 : IsSl H cR v_16 v_14.vs) (hS : St w0 H ([(b_2, oc #[sv s_4, i6 xat_5, i6 deep_7, i6 e_9, i6 bad_11, .bool heavy_13] 67)] ++ L) w) (hV : V_rlight s_4 xat_5 deep_7 e_9 bad_11 heavy_13 v_14 Q) :
 Calls Tryz.prog 70 #[(pq b_2), .agg #[i6 v_14.k, i6 v_14.i, sv v_14.t, v_15, v_16]] w fun e w' => ∃ (r1 : RV) (r2 : Bool) (u1 : Value) (w1 : Value) (H' : View), Q r1 r2 ∧ e = .returned (.agg #[i6 r1.k, i6 r1.i, sv r1.t, u1, w1]) ∧ View.le H H' ∧ I64 r1.k ∧ I64 r1.i ∧ IsSl H' cR u1 r1.ks ∧ IsSl H' cR w1 r1.vs ∧ St w0 H' ([(b_2, oc #[sv s_4, i6 xat_5, i6 deep_7, i6 e_9, i6 bad_11, .bool r2] 67)] ++ L) w' := by
 unfold V_rlight at hV
 refine enter Tryz.func70 rfl Tryz.ntmps70 rfl (lk_args_cons (d := 0) (v := (pq b_2)) rfl (lk_args_cons (d := 1) (v := .agg #[i6 v_14.k, i6 v_14.i, sv v_14.t, v_15, v_16]) rfl (lk_args_nil _))) (WC.sr (WL.box (arr := #[i6 v_14.k, i6 v_14.i, sv v_14.t, v_15, v_16]) rfl rfl rfl hS ?_))
 clear hS
 intro b_21 w hS
 refine WL.alloc (arr := #[i6 0, i6 0, sv ([] : Str), (.slice none 0 0), (.slice none 0 0)]) rfl Tryz.zeroValue32 rfl hS ?_
 clear hS
 intro b_23 w hS
 refine WL.nx ?_
 obtain ⟨J_30, hJ_31, hV⟩ := hV
 refine WC.meet (fun a w => ∃ (c_29 : Bool), J_30 c_29 ∧ St w0 H ([(b_21, oc #[i6 v_14.k, i6 v_14.i, sv v_14.t, v_15, v_16] 32)] ++ ([(b_23, Obj.cells #[i6 0, i6 0, sv ([] : Str), (.slice none 0 0), (.slice none 0 0)] 32 (0, 0))] ++ ([(b_2, oc #[sv s_4, i6 xat_5, i6 deep_7, i6 e_9, i6 bad_11, .bool c_29] 67)] ++ L))) w ∧ Fr 12 [(3, (pq b_21)), (4, (pq b_23))] a) ?_ ?_
 rintro a w ⟨c_29, hI, hS, ha⟩
 refine in_frame ha ?_
 clear ha hV
 have hV := hJ_31 _ hI
 clear hI hJ_31
 refine WC.sr (WL.run hS rfl rfl rfl (ex_load_box_agg (cs := [i6 v_14.k, i6 v_14.i, sv v_14.t, v_15, v_16]) Tryz.isAgg32 Tryz.sizeOf32 rfl rfl rfl) ?_)
 replace hS := hS.f2
 refine WL.store_box (pre := []) (old := [i6 0, i6 0, sv ([] : Str), (.slice none 0 0), (.slice none 0 0)]) (rst := []) (cs := [i6 v_14.k, i6 v_14.i, sv v_14.t, v_15, v_16]) (arr' := #[i6 v_14.k, i6 v_14.i, sv v_14.t, v_15, v_16]) Tryz.sizeOf32 rfl rfl rfl ⟨rfl, rfl, rfl, (IsSl.one h_19), (IsSl.one h_20), trivial⟩ rfl rfl rfl rfl hS ?_
 clear hS
 intro w hS
 refine WL.nx ?_
 replace hS := hS.f2.drop
 refine WC.ret ?_
 have hl_34 := load_own_agg (P := Tryz.prog) (cs := [i6 v_14.k, i6 v_14.i, sv v_14.t, v_15, v_16]) Tryz.isAgg32 Tryz.sizeOf32 hS rfl
 replace hS := hS.drop
 exact leavec1 (il) rfl rfl hl_34 (⟨v_14, c_29, v_15, v_16, H, hV, rfl, (View.le.refl _), hr_17, hr_18, h_19, h_20, hS⟩)
 clear hJ_31
 refine WC.sr (WL.run hS rfl rfl rfl (ex_fieldAddr (o' := 0) Tryz.underlying32 rfl Tryz.sizeOf3 rfl rfl) ?_)
 replace hS := hS.f2
 refine WL.run hS rfl rfl rfl (ex_load_box Tryz.isAgg3 rfl rfl) (WL.run hS rfl rfl rfl (ex_eql rfl rfl) (WL.nx ?_))
 refine WC.cond rfl ?_ ?_
 intro hc_33
 replace hV := hV.1 (of_decide_eq_true hc_33)
 refine WC.region (WL.mv rfl rfl (WL.run hS rfl rfl rfl (ex_nilCheck rfl) (WL.run hS rfl rfl rfl (ex_fieldAddr (o' := 5) Tryz.underlying67 rfl Tryz.sizeOf4 rfl rfl) ?_)))
 replace hS := hS.f3
 refine WL.store_box (pre := [sv s_4, i6 xat_5, i6 deep_7, i6 e_9, i6 bad_11]) (old := [.bool heavy_13]) (rst := []) (cs := [.bool true]) (arr' := #[sv s_4, i6 xat_5, i6 deep_7, i6 e_9, i6 bad_11, .bool true]) Tryz.sizeOf4 rfl rfl rfl ⟨rfl, trivial⟩ rfl rfl rfl rfl hS ?_
 clear hS
 intro w hS
 refine WL.nil ?_
 replace hS := hS.f3.f3
 exact WQ.there fun a ha => ⟨true, hV, hS, ha.of_sub ⟨rfl, rfl, trivial⟩⟩
 intro hc_33
 replace hV := hV.2 (of_decide_eq_false hc_33)
 refine WC.skip ?_
 replace hS := hS.f3.f3.f3
 exact WQ.there fun a ha => ⟨heavy_13, hV, hS, ha.of_sub ⟨rfl, rfl, trivial⟩⟩

theorem S_rnumber {w0 : World} {H : View} {L : Seg} {w : World} {b_2 : Nat} {s_4 : Str} {xat_5 : Int} {deep_7 : Int} {e_9 : Int} {bad_11 : Int} {heavy_13 : Bool} {w_14 : Str} {minus_15 : Bool} {i_16 : Int} {xend_18 : Int} {Q : RV → Int → Int → Int → Prop} (hr_6 : I64 xat_5) (hr_8 : I64 deep_7) (hr_10 : I64 e_9) (hr_12 : I64 bad_11) (hr_17 : I64 i_16) (hr_19 : I64 xend_18) (hS : St w0 H ([(b_2, oc #[sv s_4, i6 xat_5, i6 deep_7, i6 e_9, i6 bad_11, .bool heavy_13] 67)] ++ L) w) (hV : V_rnumber s_4 xat_5 deep_7 e_9 bad_11 heavy_13 w_14 minus_15 i_16 xend_18 Q) :
 Calls Tryz.prog 114 #[(pq b_2), sv w_14, .bool minus_15, i6 i_16, i6 xend_18] w fun e w' => ∃ (r1 : RV) (r2 : Int) (r3 : Int) (r4 : Int) (u1 : Value) (w1 : Value) (H' : View), Q r1 r2 r3 r4 ∧ e = .returned (.agg #[i6 r1.k, i6 r1.i, sv r1.t, u1, w1]) ∧ View.le H H' ∧ I64 r1.k ∧ I64 r1.i ∧ IsSl H' cR u1 r1.ks ∧ IsSl H' cR w1 r1.vs ∧ I64 r2 ∧ I64 r3 ∧ I64 r4 ∧ St w0 H' ([(b_2, oc #[sv s_4, i6 r2, i6 deep_7, i6 r3, i6 r4, .bool heavy_13] 67)] ++ L) w' := by
 unfold V_rnumber at hV
 refine enter Tryz.func114 rfl Tryz.ntmps114 rfl (lk_args_cons (d := 0) (v := (pq b_2)) rfl (lk_args_cons (d := 1) (v := sv w_14) rfl (lk_args_cons (d := 2) (v := .bool minus_15) rfl (lk_args_cons (d := 3) (v := i6 i_16) rfl (lk_args_cons (d := 4) (v := i6 xend_18) rfl (lk_args_nil _)))))) (WC.sr (WL.alloc (arr := #[i6 0, i6 0, sv ([] : Str), (.slice none 0 0), (.slice none 0 0)]) rfl Tryz.zeroValue32 rfl hS ?_))
 clear hS
 intro b_20 w hS
 refine WL.nx ?_
 obtain ⟨J_30, hJ_31, hV⟩ := hV
 refine WC.meet (fun a w => ∃ (ok_29 : Bool), J_30 ok_29 ∧ St w0 H ([(b_2, oc #[sv s_4, i6 xat_5, i6 deep_7, i6 e_9, i6 bad_11, .bool heavy_13] 67)] ++ ([(b_20, Obj.cells #[i6 0, i6 0, sv ([] : Str), (.slice none 0 0), (.slice none 0 0)] 32 (0, 0))] ++ L)) w ∧ Fr 77 [(0, (pq b_2)), (1, sv w_14), (2, .bool minus_15), (3, i6 i_16), (4, i6 xend_18), (10, (pq b_20)), (11, .bool ok_29)] a) ?_ ?_
 rintro a w ⟨ok_29, hI, hS, ha⟩
 refine in_frame ha ?_
 clear ha hV
 have hV := hJ_31 _ hI
 clear hI hJ_31
 refine WC.seq (WC.sr (WL.ma rfl rfl (WL.nx (WC.block ?_))))
 replace hS := hS.f2.f2
 obtain ⟨I_58, mu_59, hI_110, hV⟩ := hV
 refine WC.loop (σ := Bool × Int) (fun s a w => ∃ (ok_46 : Bool) (k_47 : Int), s = (ok_46, k_47) ∧ I_58 (ok_46, k_47) ∧ I64 k_47 ∧ St w0 H ([(b_2, oc #[sv s_4, i6 xat_5, i6 deep_7, i6 e_9, i6 bad_11, .bool heavy_13] 67)] ++ ([(b_20, Obj.cells #[i6 0, i6 0, sv ([] : Str), (.slice none 0 0), (.slice none 0 0)] 32 (0, 0))] ++ L)) w ∧ Fr 77 [(0, (pq b_2)), (1, sv w_14), (2, .bool minus_15), (3, i6 i_16), (4, i6 xend_18), (10, (pq b_20)), (11, .bool ok_46), (12, i6 k_47)] a) mu_59 (ok_29, (0 : Int)) ?_ ?_
 exact fun a ha => ⟨ok_29, (0 : Int), rfl, hI_110, (show I64 (0 : Int) by unfold I64; omega), hS, ha.of_sub ⟨rfl, rfl, rfl, rfl, rfl, rfl, rfl, rfl, trivial⟩⟩
 clear hS hI_110
 rintro _ a w ⟨ok_46, k_47, rfl, hI, hr_48, hS, ha⟩
 refine in_frame ha ?_
 clear ha
 replace hV := hV _ hI
 clear hI
 refine WC.seq (WC.sr (WL.mv rfl rfl (WL.mv rfl rfl ?_)))
 obtain ⟨hl_61, hV⟩ := hV
 refine WL.run hS rfl rfl rfl (ex_s_len Tryz.underlying9 rfl) (WL.run hS rfl rfl rfl (ex_lss rfl rfl) (WL.nx ?_))
 refine WC.cond rfl ?_ ?_
 intro hc_109
 replace hV := hV.1 (of_decide_eq_true hc_109)
 refine WC.skip (WQ.next (WC.seq (WC.block (WC.sr (WL.mv rfl rfl (WL.mv rfl rfl ?_))))))
 obtain ⟨hin_63, hV⟩ := hV
 refine WL.run hS rfl rfl rfl (ex_s_index Tryz.underlying9 rfl rfl hin_63) (WL.call rfl rfl rfl (enters0 (vs := [.int .u8 (byte w_14 k_47)]) Tryz.call113 ⟨rfl, trivial⟩) (S_rDigit (byte_has (x := w_14) (i := k_47)) hS hV) ?_)
 clear hV hS
 rintro _ w ⟨r_64, hV, rfl, hS⟩
 refine ⟨_, rfl, ?_⟩
 refine WL.ma rfl rfl (WL.nx ?_)
 refine WC.via (m := [(0, (pq b_2)), (1, sv w_14), (2, .bool minus_15), (3, i6 i_16), (4, i6 xend_18), (10, (pq b_20)), (11, .bool (decide ((ok_46 = true) ∧ (r_64 = true)))), (12, i6 k_47)]) ?_ ?_
 refine WC.region (WL.mv rfl rfl (WL.mv rfl rfl ?_))
 rcases Bool.eq_false_or_eq_true ok_46 with hg_66 | hg_66
 refine WL.unguard rfl rfl hg_66 (WL.mv rfl rfl (WL.run hS rfl rfl rfl (ex_pick_t rfl hg_66 rfl) (WL.up (s := 41) rfl ((dec_true _).trans (and_t ((dec_true _).symm.trans hg_66) : decide (r_64 = true) = decide ((ok_46 = true) ∧ (r_64 = true)))) (WL.ma rfl rfl ?_))))
 exact WL.nil (At.of ⟨rfl, rfl, rfl, rfl, rfl, rfl, rfl, rfl, trivial⟩)
 refine WL.skip_g rfl rfl rfl hg_66 rfl rfl (WL.run hS rfl rfl rfl (ex_pick_f rfl hg_66 rfl) (WL.up (s := 41) rfl (and_f ((dec_true _).symm.trans hg_66) : false = decide ((ok_46 = true) ∧ (r_64 = true))) (WL.ma rfl rfl ?_)))
 exact WL.nil (At.of ⟨rfl, rfl, rfl, rfl, rfl, rfl, rfl, rfl, trivial⟩)
 refine WQ.out nofun (WQ.next (WC.region (WL.mv rfl rfl ?_)))
 obtain ⟨hi_68, hV⟩ := hV
 refine WL.run hS rfl rfl rfl (ex_add rfl rfl hi_68) (WL.ma rfl rfl (WL.nil ?_))
 replace hS := hS.f2.f2
 exact WQ.there fun a ha => ⟨(decide ((ok_46 = true) ∧ (r_64 = true)), (k_47 + (1 : Int))), ⟨decide ((ok_46 = true) ∧ (r_64 = true)), (k_47 + (1 : Int)), rfl, hV.1, hi_68, hS, ha.of_sub ⟨rfl, rfl, rfl, rfl, rfl, rfl, rfl, rfl, trivial⟩⟩, hV.2⟩
 intro hc_109
 replace hV := hV.2 (of_decide_eq_false hc_109)
 refine WC.exit (WQ.pass nofun (WQ.pass nofun (WQ.hit (WQ.next (WC.seq (WC.sr (WL.mv rfl rfl ?_)))))))
 refine WL.run hS rfl rfl rfl (ex_not rfl) (WL.nx ?_)
 refine WC.cond rfl ?_ ?_
 intro hc_108
 replace hV := hV.1 hc_108
 refine WC.sr (WL.mv rfl rfl (WL.mv rfl rfl (WL.call rfl rfl rfl (enters0 (vs := [(pq b_2), i6 (1 : Int), i6 i_16]) Tryz.call28 ⟨rfl, rfl, rfl, trivial⟩) (S_rfail hr_6 hr_8 hr_10 hr_12 (show I64 (1 : Int) by unfold I64; omega) hr_17 hS hV) ?_)))
 clear hV hS
 rintro _ w ⟨r_69, r_71, hV, rfl, hr_70, hr_72, hS⟩
 refine ⟨_, rfl, ?_⟩
 refine WL.nx (WC.sub (m := [(10, (pq b_20))]) ⟨rfl, trivial⟩ (WC.sr (WL.run hS rfl rfl rfl (ex_build (vs := []) (zc := #[i6 0, i6 0, sv ([] : Str), (.slice none 0 0), (.slice none 0 0)]) (cs := #[i6 0, i6 0, sv ([] : Str), (.slice none 0 0), (.slice none 0 0)]) (places := #[(0, 1), (1, 1), (2, 1), (3, 1), (4, 1)]) Tryz.underlying32 Tryz.zeroValue32 (fun w => by simp [Tryz.sizeOf2, Tryz.sizeOf3, Tryz.sizeOf30, Tryz.sizeOf9]) rfl trivial rfl (by simp [Instr.fill, cells_int, cells_bool, cells_iface, cells_niliface, cells_slice, str_cells])) ?_)))
 replace hS := hS.f2
 refine WL.store_box (pre := []) (old := [i6 0, i6 0, sv ([] : Str), (.slice none 0 0), (.slice none 0 0)]) (rst := []) (cs := [i6 0, i6 0, sv ([] : Str), (.slice none 0 0), (.slice none 0 0)]) (arr' := #[i6 0, i6 0, sv ([] : Str), (.slice none 0 0), (.slice none 0 0)]) Tryz.sizeOf32 rfl rfl rfl ⟨rfl, rfl, rfl, rfl, rfl, trivial⟩ rfl rfl rfl rfl hS ?_
 clear hS
 intro w hS
 refine WL.nx (WC.ret (WQ.pass nofun ?_))
 have hl_76 := load_own_agg (P := Tryz.prog) (cs := [i6 0, i6 0, sv ([] : Str), (.slice none 0 0), (.slice none 0 0)]) Tryz.isAgg32 Tryz.sizeOf32 hS rfl
 replace hS := hS.drop
 exact leavec1 (il) rfl rfl hl_76 (⟨(RV.mk 0 0 ([] : Str) ([] : List RV) ([] : List RV)), xat_5, r_69, r_71, (.slice none 0 0), (.slice none 0 0), H, hV, rfl, (View.le.refl _), (show I64 0 by unfold I64; omega), (show I64 0 by unfold I64; omega), IsSl.nil, IsSl.nil, hr_6, hr_70, hr_72, hS⟩)
 intro hc_108
 replace hV := hV.2 hc_108
 refine WC.skip (WQ.next (WC.sr (WL.mv rfl rfl (WL.call rfl rfl rfl (enters0 (vs := [sv w_14]) Tryz.call197 ⟨rfl, trivial⟩) (S_rSize  hS hV) ?_))))
 clear hV hS
 rintro _ w ⟨r_77, r_79, hV, rfl, hr_78, hS⟩
 refine ⟨_, rfl, ?_⟩
 refine WL.mv rfl rfl (WL.run hS rfl rfl rfl (ex_extract rfl rfl) (WL.run hS rfl rfl rfl (ex_extract rfl rfl) (WL.ma rfl rfl (WL.ma rfl rfl (WL.nx (WC.sub (m := [(0, (pq b_2)), (2, .bool minus_15), (3, i6 i_16), (4, i6 xend_18), (10, (pq b_20)), (14, .int .u64 r_77), (15, .bool r_79)]) ⟨rfl, rfl, rfl, rfl, rfl, rfl, rfl, trivial⟩ (WC.seq ?_)))))))
 refine WC.seq ?_
 refine WC.via (m := [(0, (pq b_2)), (2, .bool minus_15), (3, i6 i_16), (4, i6 xend_18), (10, (pq b_20)), (14, .int .u64 r_77), (62, .bool (decide (((!r_79) = true) ∨ ((r_77 = (9223372036854775808 : Int)) ∧ ((!minus_15) = true)))))]) ?_ ?_
 refine WC.region (WL.mv rfl rfl (WL.run hS rfl rfl rfl (ex_not rfl) (WL.mv rfl rfl ?_)))
 rcases Bool.eq_false_or_eq_true (!r_79) with hg_81 | hg_81
 refine WL.skip_g rfl rfl rfl hg_81 rfl rfl (WL.skip_g rfl rfl rfl hg_81 rfl rfl (WL.skip_g rfl rfl rfl hg_81 rfl rfl (WL.skip_u rfl rfl rfl rfl rfl (WL.skip_u rfl rfl rfl rfl rfl (WL.skip_g rfl rfl rfl hg_81 rfl rfl (WL.run hS rfl rfl rfl (ex_pick_t rfl hg_81 rfl) (WL.up (s := 62) rfl (or_t ((dec_true _).symm.trans hg_81) : true = decide (((!r_79) = true) ∨ ((r_77 = (9223372036854775808 : Int)) ∧ ((!minus_15) = true)))) ?_)))))))
 exact WL.nil (At.of ⟨rfl, rfl, rfl, rfl, rfl, rfl, rfl, trivial⟩)
 refine WL.unguard rfl rfl hg_81 (WL.mv rfl rfl (WL.unguard rfl rfl hg_81 (WL.run hS rfl rfl rfl (ex_eql rfl rfl) (WL.unguard rfl rfl hg_81 (WL.mv rfl rfl ?_)))))
 rcases Bool.eq_false_or_eq_true (decide (r_77 = (9223372036854775808 : Int))) with hg_82 | hg_82
 refine WL.unguard rfl rfl hg_82 (WL.mv rfl rfl (WL.unguard rfl rfl hg_82 (WL.run hS rfl rfl rfl (ex_not rfl) (WL.unguard rfl rfl hg_81 (WL.run hS rfl rfl rfl (ex_pick_t rfl hg_82 rfl) (WL.up (s := 61) rfl ((dec_true _).trans (and_t hg_82 : decide ((!minus_15) = true) = decide ((r_77 = (9223372036854775808 : Int)) ∧ ((!minus_15) = true)))) (WL.run hS rfl rfl rfl (ex_pick_f rfl hg_81 rfl) ?_)))))))
 refine WL.up (s := 62) rfl (or_f ((dec_true _).symm.trans hg_81) : decide ((r_77 = (9223372036854775808 : Int)) ∧ ((!minus_15) = true)) = decide (((!r_79) = true) ∨ ((r_77 = (9223372036854775808 : Int)) ∧ ((!minus_15) = true)))) ?_
 exact WL.nil (At.of ⟨rfl, rfl, rfl, rfl, rfl, rfl, rfl, trivial⟩)
 refine WL.skip_g rfl rfl rfl hg_82 rfl rfl (WL.skip_g rfl rfl rfl hg_82 rfl rfl (WL.unguard rfl rfl hg_81 (WL.run hS rfl rfl rfl (ex_pick_f rfl hg_82 rfl) (WL.up (s := 61) rfl (and_f hg_82 : false = decide ((r_77 = (9223372036854775808 : Int)) ∧ ((!minus_15) = true))) (WL.run hS rfl rfl rfl (ex_pick_f rfl hg_81 rfl) (WL.up (s := 62) rfl (or_f ((dec_true _).symm.trans hg_81) : decide ((r_77 = (9223372036854775808 : Int)) ∧ ((!minus_15) = true)) = decide (((!r_79) = true) ∨ ((r_77 = (9223372036854775808 : Int)) ∧ ((!minus_15) = true)))) ?_))))))
 exact WL.nil (At.of ⟨rfl, rfl, rfl, rfl, rfl, rfl, rfl, trivial⟩)
 refine WQ.next ?_
 refine WC.cond rfl ?_ ?_
 intro hc_107
 replace hV := hV.1 (of_decide_eq_true hc_107)
 refine WC.sr (WL.mv rfl rfl (WL.mv rfl rfl (WL.call rfl rfl rfl (enters0 (vs := [(pq b_2), i6 (5 : Int), i6 i_16]) Tryz.call28 ⟨rfl, rfl, rfl, trivial⟩) (S_rfail hr_6 hr_8 hr_10 hr_12 (show I64 (5 : Int) by unfold I64; omega) hr_17 hS hV) ?_)))
 clear hV hS
 rintro _ w ⟨r_83, r_85, hV, rfl, hr_84, hr_86, hS⟩
 refine ⟨_, rfl, ?_⟩
 refine WL.nx (WC.sr (WL.run hS rfl rfl rfl (ex_build (vs := []) (zc := #[i6 0, i6 0, sv ([] : Str), (.slice none 0 0), (.slice none 0 0)]) (cs := #[i6 0, i6 0, sv ([] : Str), (.slice none 0 0), (.slice none 0 0)]) (places := #[(0, 1), (1, 1), (2, 1), (3, 1), (4, 1)]) Tryz.underlying32 Tryz.zeroValue32 (fun w => by simp [Tryz.sizeOf2, Tryz.sizeOf3, Tryz.sizeOf30, Tryz.sizeOf9]) rfl trivial rfl (by simp [Instr.fill, cells_int, cells_bool, cells_iface, cells_niliface, cells_slice, str_cells])) ?_))
 replace hS := hS.f2
 refine WL.store_box (pre := []) (old := [i6 0, i6 0, sv ([] : Str), (.slice none 0 0), (.slice none 0 0)]) (rst := []) (cs := [i6 0, i6 0, sv ([] : Str), (.slice none 0 0), (.slice none 0 0)]) (arr' := #[i6 0, i6 0, sv ([] : Str), (.slice none 0 0), (.slice none 0 0)]) Tryz.sizeOf32 rfl rfl rfl ⟨rfl, rfl, rfl, rfl, rfl, trivial⟩ rfl rfl rfl rfl hS ?_
 clear hS
 intro w hS
 refine WL.nx (WC.sub (m := [(10, (pq b_20))]) ⟨rfl, trivial⟩ (WC.ret (WQ.pass nofun ?_)))
 have hl_90 := load_own_agg (P := Tryz.prog) (cs := [i6 0, i6 0, sv ([] : Str), (.slice none 0 0), (.slice none 0 0)]) Tryz.isAgg32 Tryz.sizeOf32 hS rfl
 replace hS := hS.drop
 exact leavec1 (il) rfl rfl hl_90 (⟨(RV.mk 0 0 ([] : Str) ([] : List RV) ([] : List RV)), xat_5, r_83, r_85, (.slice none 0 0), (.slice none 0 0), H, hV, rfl, (View.le.refl _), (show I64 0 by unfold I64; omega), (show I64 0 by unfold I64; omega), IsSl.nil, IsSl.nil, hr_6, hr_84, hr_86, hS⟩)
 intro hc_107
 replace hV := hV.2 (of_decide_eq_false hc_107)
 refine WC.skip (WQ.next (WC.sr (WL.mv rfl rfl (WL.mv rfl rfl (WL.run hS rfl rfl rfl (ex_nilCheck rfl) (WL.run hS rfl rfl rfl (ex_fieldAddr (o' := 1) Tryz.underlying67 rfl Tryz.sizeOf3 rfl rfl) (WL.store_box (pre := [sv s_4]) (old := [i6 xat_5]) (rst := [i6 deep_7, i6 e_9, i6 bad_11, .bool heavy_13]) (cs := [i6 xend_18]) (arr' := #[sv s_4, i6 xend_18, i6 deep_7, i6 e_9, i6 bad_11, .bool heavy_13]) Tryz.sizeOf3 rfl rfl rfl ⟨rfl, trivial⟩ rfl rfl rfl rfl hS ?_)))))))
 clear hS
 intro w hS
 refine WL.nx ?_
 obtain ⟨J_94, hJ_95, hV⟩ := hV
 refine WC.meet (fun a w => ∃ (n_92 : Int), J_94 n_92 ∧ IntKind.u64.has n_92 ∧ St w0 H ([(b_20, Obj.cells #[i6 0, i6 0, sv ([] : Str), (.slice none 0 0), (.slice none 0 0)] 32 (0, 0))] ++ ([(b_2, oc #[sv s_4, i6 xend_18, i6 deep_7, i6 e_9, i6 bad_11, .bool heavy_13] 67)] ++ L)) w ∧ Fr 77 [(10, (pq b_20)), (14, .int .u64 n_92)] a) ?_ ?_
 rintro a w ⟨n_92, hI, hr_93, hS, ha⟩
 refine in_frame ha ?_
 clear ha hV
 have hV := hJ_95 _ hI
 clear hI hJ_95
 refine WC.sr (WL.mv rfl rfl (WL.run hS rfl rfl rfl (ex_conv_int Tryz.underlying115 Tryz.underlying2 rfl) (WL.call rfl rfl rfl (enters0 (vs := [i6 (IntKind.i64.wrap n_92)]) Tryz.call81 ⟨rfl, trivial⟩) (S_rNumber (wrap_I64 _) hS hV) ?_)))
 clear hV hS
 rintro _ w ⟨r_97, v_98, v_99, H_104, hV, rfl, le_105, hr_100, hr_101, h_102, h_103, hS⟩
 refine ⟨_, rfl, ?_⟩
 refine WL.store_box (pre := []) (old := [i6 0, i6 0, sv ([] : Str), (.slice none 0 0), (.slice none 0 0)]) (rst := []) (cs := [i6 r_97.k, i6 r_97.i, sv r_97.t, v_98, v_99]) (arr' := #[i6 r_97.k, i6 r_97.i, sv r_97.t, v_98, v_99]) Tryz.sizeOf32 rfl rfl rfl ⟨rfl, rfl, rfl, (IsSl.one h_102), (IsSl.one h_103), trivial⟩ rfl rfl rfl rfl hS ?_
 clear hS
 intro w hS
 refine WL.nx (WC.ret ?_)
 have hl_106 := load_own_agg (P := Tryz.prog) (cs := [i6 r_97.k, i6 r_97.i, sv r_97.t, v_98, v_99]) Tryz.isAgg32 Tryz.sizeOf32 hS rfl
 replace hS := hS.drop
 exact leavec1 (il) rfl rfl hl_106 (⟨r_97, xend_18, e_9, bad_11, v_98, v_99, H_104, hV, rfl, ((View.le.refl _).trans le_105), hr_100, hr_101, h_102, h_103, hr_19, hr_10, hr_12, hS⟩)
 clear hJ_95
 refine WC.sr (WL.mv rfl rfl (WL.nx ?_))
 refine WC.cond rfl ?_ ?_
 intro hc_96
 replace hV := hV.1 hc_96
 refine WC.region (WL.mv rfl rfl (WL.run hS rfl rfl rfl (ex_wrap_neg rfl) (WL.ma rfl rfl (WL.nil ?_))))
 replace hS := hS.f2
 exact WQ.there fun a ha => ⟨(IntKind.u64.wrap (-r_77)), hV, (wrap_has _ _), hS, ha.of_sub ⟨rfl, rfl, trivial⟩⟩
 intro hc_96
 replace hV := hV.2 hc_96
 refine WC.skip ?_
 replace hS := hS.f2
 exact WQ.there fun a ha => ⟨r_77, hV, hr_78, hS, ha.of_sub ⟨rfl, rfl, trivial⟩⟩
 clear hJ_31
 refine WC.region (WL.mv rfl rfl ?_)
 obtain ⟨hin_32, hV⟩ := hV
 refine WL.run hS rfl rfl rfl (ex_s_index Tryz.underlying9 rfl rfl hin_32) (WL.run hS rfl rfl rfl (ex_neq rfl rfl) (WL.mv rfl rfl ?_))
 rcases Bool.eq_false_or_eq_true (decide ((byte w_14 (0 : Int)) ≠ (48 : Int))) with hg_33 | hg_33
 replace hV := hV.1 (of_decide_eq_true hg_33)
 refine WL.skip_g rfl rfl rfl hg_33 rfl rfl (WL.skip_g rfl rfl rfl hg_33 rfl rfl (WL.skip_g rfl rfl rfl hg_33 rfl rfl (WL.skip_g rfl rfl rfl hg_33 rfl rfl (WL.skip_u rfl rfl rfl rfl rfl (WL.skip_u rfl rfl rfl rfl rfl (WL.skip_g rfl rfl rfl hg_33 rfl rfl (WL.run hS rfl rfl rfl (ex_pick_t rfl hg_33 rfl) ?_)))))))
 refine WL.ma rfl rfl (WL.nil ?_)
 replace hS := hS.f2
 exact WQ.there fun a ha => ⟨true, hV, hS, ha.of_sub ⟨rfl, rfl, rfl, rfl, rfl, rfl, rfl, trivial⟩⟩
 replace hV := hV.2 (of_decide_eq_false hg_33)
 refine WL.unguard rfl rfl hg_33 (WL.mv rfl rfl (WL.unguard rfl rfl hg_33 ?_))
 obtain ⟨hl_34, hV⟩ := hV
 refine WL.run hS rfl rfl rfl (ex_s_len Tryz.underlying9 rfl) (WL.unguard rfl rfl hg_33 (WL.run hS rfl rfl rfl (ex_eql rfl rfl) (WL.unguard rfl rfl hg_33 (WL.mv rfl rfl ?_))))
 rcases Bool.eq_false_or_eq_true (decide ((w_14.length : Int) = (1 : Int))) with hg_36 | hg_36
 replace hV := hV.1 (of_decide_eq_true hg_36)
 refine WL.unguard rfl rfl hg_36 (WL.mv rfl rfl (WL.unguard rfl rfl hg_36 (WL.run hS rfl rfl rfl (ex_not rfl) (WL.unguard rfl rfl hg_33 (WL.run hS rfl rfl rfl (ex_pick_t rfl hg_36 rfl) (WL.run hS rfl rfl rfl (ex_pick_f rfl hg_33 rfl) (WL.ma rfl rfl ?_)))))))
 refine WL.nil ?_
 replace hS := hS.f2
 exact WQ.there fun a ha => ⟨(!minus_15), hV, hS, ha.of_sub ⟨rfl, rfl, rfl, rfl, rfl, rfl, rfl, trivial⟩⟩
 replace hV := hV.2 (of_decide_eq_false hg_36)
 refine WL.skip_g rfl rfl rfl hg_36 rfl rfl (WL.skip_g rfl rfl rfl hg_36 rfl rfl (WL.unguard rfl rfl hg_33 (WL.run hS rfl rfl rfl (ex_pick_f rfl hg_36 rfl) (WL.run hS rfl rfl rfl (ex_pick_f rfl hg_33 rfl) (WL.ma rfl rfl (WL.nil ?_))))))
 replace hS := hS.f2
 exact WQ.there fun a ha => ⟨false, hV, hS, ha.of_sub ⟨rfl, rfl, rfl, rfl, rfl, rfl, rfl, trivial⟩⟩

theorem S_rsingle {w0 : World} {H : View} {L : Seg} {w : World} {b_2 : Nat} {s_4 : Str} {xat_5 : Int} {deep_7 : Int} {e_9 : Int} {bad_11 : Int} {heavy_13 : Bool} {Q : RV → Int → Int → Int → Prop} (hr_6 : I64 xat_5) (hr_8 : I64 deep_7) (hr_10 : I64 e_9) (hr_12 : I64 bad_11) (hS : St w0 H ([(b_2, oc #[sv s_4, i6 xat_5, i6 deep_7, i6 e_9, i6 bad_11, .bool heavy_13] 67)] ++ L) w) (hV : V_rsingle s_4 xat_5 deep_7 e_9 bad_11 heavy_13 Q) :
 Calls Tryz.prog 72 #[(pq b_2)] w fun e w' => ∃ (r1 : RV) (r2 : Int) (r3 : Int) (r4 : Int) (u1 : Value) (w1 : Value) (H' : View), Q r1 r2 r3 r4 ∧ e = .returned (.agg #[i6 r1.k, i6 r1.i, sv r1.t, u1, w1]) ∧ View.le H H' ∧ I64 r1.k ∧ I64 r1.i ∧ IsSl H' cR u1 r1.ks ∧ IsSl H' cR w1 r1.vs ∧ I64 r2 ∧ I64 r3 ∧ I64 r4 ∧ St w0 H' ([(b_2, oc #[sv s_4, i6 r2, i6 deep_7, i6 r3, i6 r4, .bool heavy_13] 67)] ++ L) w' := by
 unfold V_rsingle at hV
 refine enter Tryz.func72 rfl Tryz.ntmps72 rfl (lk_args_cons (d := 0) (v := (pq b_2)) rfl (lk_args_nil _)) (WC.sr (WL.alloc (arr := #[i6 0, i6 0, sv ([] : Str), (.slice none 0 0), (.slice none 0 0)]) rfl Tryz.zeroValue32 rfl hS ?_))
 clear hS
 intro b_14 w hS
 refine WL.nx (WC.sr (WL.mv rfl rfl (WL.run hS rfl rfl rfl (ex_nilCheck rfl) (WL.run hS rfl rfl rfl (ex_fieldAddr (o' := 1) Tryz.underlying67 rfl Tryz.sizeOf3 rfl rfl) ?_))))
 replace hS := hS.f2
 refine WL.run hS rfl rfl rfl (ex_load_box Tryz.isAgg3 rfl rfl) (WL.ma rfl rfl (WL.nx (WC.seq (WC.sr (WL.mv rfl rfl (WL.mv rfl rfl (WL.run hS rfl rfl rfl (ex_nilCheck rfl) ?_)))))))
 refine WL.run hS rfl rfl rfl (ex_fieldAddr (o' := 0) Tryz.underlying67 rfl Tryz.sizeOf9 rfl rfl) (WL.run hS rfl rfl rfl (ex_load_box Tryz.isAgg9 rfl rfl) ?_)
 obtain ⟨hl_18, hV⟩ := hV
 refine WL.run hS rfl rfl rfl (ex_s_len Tryz.underlying9 rfl) (WL.run hS rfl rfl rfl (ex_eql rfl rfl) (WL.nx (WC.sub (m := [(0, (pq b_2)), (2, (pq b_14)), (3, i6 xat_5), (21, .bool (decide (xat_5 = (s_4.length : Int))))]) ⟨rfl, rfl, rfl, rfl, trivial⟩ ?_)))
 refine WC.cond rfl ?_ ?_
 intro hc_183
 replace hV := hV.1 (of_decide_eq_true hc_183)
 refine WC.sr (WL.mv rfl rfl (WL.mv rfl rfl (WL.call rfl rfl rfl (enters0 (vs := [(pq b_2), i6 (1 : Int), i6 xat_5]) Tryz.call28 ⟨rfl, rfl, rfl, trivial⟩) (S_rfail hr_6 hr_8 hr_10 hr_12 (show I64 (1 : Int) by unfold I64; omega) hr_6 hS hV) ?_)))
 clear hV hS
 rintro _ w ⟨r_20, r_22, hV, rfl, hr_21, hr_23, hS⟩
 refine ⟨_, rfl, ?_⟩
 refine WL.nx (WC.sr (WL.run hS rfl rfl rfl (ex_build (vs := []) (zc := #[i6 0, i6 0, sv ([] : Str), (.slice none 0 0), (.slice none 0 0)]) (cs := #[i6 0, i6 0, sv ([] : Str), (.slice none 0 0), (.slice none 0 0)]) (places := #[(0, 1), (1, 1), (2, 1), (3, 1), (4, 1)]) Tryz.underlying32 Tryz.zeroValue32 (fun w => by simp [Tryz.sizeOf2, Tryz.sizeOf3, Tryz.sizeOf30, Tryz.sizeOf9]) rfl trivial rfl (by simp [Instr.fill, cells_int, cells_bool, cells_iface, cells_niliface, cells_slice, str_cells])) ?_))
 replace hS := hS.f2
 refine WL.store_box (pre := []) (old := [i6 0, i6 0, sv ([] : Str), (.slice none 0 0), (.slice none 0 0)]) (rst := []) (cs := [i6 0, i6 0, sv ([] : Str), (.slice none 0 0), (.slice none 0 0)]) (arr' := #[i6 0, i6 0, sv ([] : Str), (.slice none 0 0), (.slice none 0 0)]) Tryz.sizeOf32 rfl rfl rfl ⟨rfl, rfl, rfl, rfl, rfl, trivial⟩ rfl rfl rfl rfl hS ?_
 clear hS
 intro w hS
 refine WL.nx (WC.ret (WQ.pass nofun ?_))
 have hl_27 := load_own_agg (P := Tryz.prog) (cs := [i6 0, i6 0, sv ([] : Str), (.slice none 0 0), (.slice none 0 0)]) Tryz.isAgg32 Tryz.sizeOf32 hS rfl
 replace hS := hS.drop
 exact leavec1 (il) rfl rfl hl_27 (⟨(RV.mk 0 0 ([] : Str) ([] : List RV) ([] : List RV)), xat_5, r_20, r_22, (.slice none 0 0), (.slice none 0 0), H, hV, rfl, (View.le.refl _), (show I64 0 by unfold I64; omega), (show I64 0 by unfold I64; omega), IsSl.nil, IsSl.nil, hr_6, hr_21, hr_23, hS⟩)
 intro hc_183
 replace hV := hV.2 (of_decide_eq_false hc_183)
 refine WC.skip (WQ.next (WC.seq (WC.sr (WL.mv rfl rfl (WL.run hS rfl rfl rfl (ex_nilCheck rfl) (WL.run hS rfl rfl rfl (ex_fieldAddr (o' := 0) Tryz.underlying67 rfl Tryz.sizeOf9 rfl rfl) (WL.run hS rfl rfl rfl (ex_load_box Tryz.isAgg9 rfl rfl) ?_)))))))
 refine WL.mv rfl rfl ?_
 obtain ⟨hin_28, hV⟩ := hV
 refine WL.run hS rfl rfl rfl (ex_s_index Tryz.underlying9 rfl rfl hin_28) (WL.run hS rfl rfl rfl (ex_eql rfl rfl) (WL.nx ?_))
 refine WC.cond rfl ?_ ?_
 intro hc_182
 replace hV := hV.1 (of_decide_eq_true hc_182)
 refine WC.sr (WL.mv rfl rfl (WL.run hS rfl rfl rfl (ex_nilCheck rfl) (WL.run hS rfl rfl rfl (ex_fieldAddr (o' := 0) Tryz.underlying67 rfl Tryz.sizeOf9 rfl rfl) (WL.run hS rfl rfl rfl (ex_load_box Tryz.isAgg9 rfl rfl) (WL.mv rfl rfl (WL.call rfl rfl rfl (enters0 (vs := [sv s_4, i6 xat_5]) Tryz.call111 ⟨rfl, rfl, trivial⟩) (S_rQuoted hr_6 hS hV) ?_))))))
 clear hV hS
 rintro _ w ⟨r_29, hV, rfl, hr_30, hS⟩
 refine ⟨_, rfl, ?_⟩
 refine WL.ma rfl rfl (WL.nx (WC.sub (m := [(0, (pq b_2)), (2, (pq b_14)), (3, i6 xat_5), (4, i6 r_29)]) ⟨rfl, rfl, rfl, rfl, trivial⟩ (WC.seq (WC.sr (WL.mv rfl rfl (WL.run hS rfl rfl rfl (ex_lss rfl rfl) (WL.nx ?_)))))))
 refine WC.cond rfl ?_ ?_
 intro hc_49
 replace hV := hV.1 (of_decide_eq_true hc_49)
 refine WC.sr (WL.mv rfl rfl (WL.mv rfl rfl (WL.call rfl rfl rfl (enters0 (vs := [(pq b_2), i6 (1 : Int), i6 xat_5]) Tryz.call28 ⟨rfl, rfl, rfl, trivial⟩) (S_rfail hr_6 hr_8 hr_10 hr_12 (show I64 (1 : Int) by unfold I64; omega) hr_6 hS hV) ?_)))
 clear hV hS
 rintro _ w ⟨r_33, r_35, hV, rfl, hr_34, hr_36, hS⟩
 refine ⟨_, rfl, ?_⟩
 refine WL.nx (WC.sr (WL.run hS rfl rfl rfl (ex_build (vs := []) (zc := #[i6 0, i6 0, sv ([] : Str), (.slice none 0 0), (.slice none 0 0)]) (cs := #[i6 0, i6 0, sv ([] : Str), (.slice none 0 0), (.slice none 0 0)]) (places := #[(0, 1), (1, 1), (2, 1), (3, 1), (4, 1)]) Tryz.underlying32 Tryz.zeroValue32 (fun w => by simp [Tryz.sizeOf2, Tryz.sizeOf3, Tryz.sizeOf30, Tryz.sizeOf9]) rfl trivial rfl (by simp [Instr.fill, cells_int, cells_bool, cells_iface, cells_niliface, cells_slice, str_cells])) ?_))
 replace hS := hS.f2
 refine WL.store_box (pre := []) (old := [i6 0, i6 0, sv ([] : Str), (.slice none 0 0), (.slice none 0 0)]) (rst := []) (cs := [i6 0, i6 0, sv ([] : Str), (.slice none 0 0), (.slice none 0 0)]) (arr' := #[i6 0, i6 0, sv ([] : Str), (.slice none 0 0), (.slice none 0 0)]) Tryz.sizeOf32 rfl rfl rfl ⟨rfl, rfl, rfl, rfl, rfl, trivial⟩ rfl rfl rfl rfl hS ?_
 clear hS
 intro w hS
 refine WL.nx (WC.ret (WQ.pass nofun (WQ.pass nofun ?_)))
 have hl_40 := load_own_agg (P := Tryz.prog) (cs := [i6 0, i6 0, sv ([] : Str), (.slice none 0 0), (.slice none 0 0)]) Tryz.isAgg32 Tryz.sizeOf32 hS rfl
 replace hS := hS.drop
 exact leavec1 (il) rfl rfl hl_40 (⟨(RV.mk 0 0 ([] : Str) ([] : List RV) ([] : List RV)), xat_5, r_33, r_35, (.slice none 0 0), (.slice none 0 0), H, hV, rfl, (View.le.refl _), (show I64 0 by unfold I64; omega), (show I64 0 by unfold I64; omega), IsSl.nil, IsSl.nil, hr_6, hr_34, hr_36, hS⟩)
 intro hc_49
 replace hV := hV.2 (of_decide_eq_false hc_49)
 refine WC.skip (WQ.next (WC.sr (WL.mv rfl rfl (WL.mv rfl rfl (WL.run hS rfl rfl rfl (ex_nilCheck rfl) (WL.run hS rfl rfl rfl (ex_fieldAddr (o' := 1) Tryz.underlying67 rfl Tryz.sizeOf3 rfl rfl) (WL.store_box (pre := [sv s_4]) (old := [i6 xat_5]) (rst := [i6 deep_7, i6 e_9, i6 bad_11, .bool heavy_13]) (cs := [i6 r_29]) (arr' := #[sv s_4, i6 r_29, i6 deep_7, i6 e_9, i6 bad_11, .bool heavy_13]) Tryz.sizeOf3 rfl rfl rfl ⟨rfl, trivial⟩ rfl rfl rfl rfl hS ?_)))))))
 clear hS
 intro w hS
 refine WL.nx (WC.sr (WL.mv rfl rfl (WL.run hS rfl rfl rfl (ex_nilCheck rfl) (WL.run hS rfl rfl rfl (ex_fieldAddr (o' := 0) Tryz.underlying67 rfl Tryz.sizeOf9 rfl rfl) (WL.run hS rfl rfl rfl (ex_load_box Tryz.isAgg9 rfl rfl) (WL.mv rfl rfl ?_))))))
 obtain ⟨hi_42, hV⟩ := hV
 refine WL.run hS rfl rfl rfl (ex_add rfl rfl hi_42) (WL.mv rfl rfl ?_)
 obtain ⟨hi_44, hV⟩ := hV
 refine WL.run hS rfl rfl rfl (ex_sub rfl rfl hi_44) ?_
 obtain ⟨hb_45, hV⟩ := hV
 refine WL.run hS rfl rfl rfl (ex_s_lohi Tryz.underlying9 rfl rfl rfl hb_45) (WL.run hS rfl rfl rfl (ex_build (vs := [i6 (3 : Int), sv ((s_4.take (r_29 - (1 : Int)).toNat).drop (xat_5 + (1 : Int)).toNat)]) (zc := #[i6 0, i6 0, sv ([] : Str), (.slice none 0 0), (.slice none 0 0)]) (cs := #[i6 (3 : Int), i6 0, sv ((s_4.take (r_29 - (1 : Int)).toNat).drop (xat_5 + (1 : Int)).toNat), (.slice none 0 0), (.slice none 0 0)]) (places := #[(0, 1), (1, 1), (2, 1), (3, 1), (4, 1)]) Tryz.underlying32 Tryz.zeroValue32 (fun w => by simp [Tryz.sizeOf2, Tryz.sizeOf3, Tryz.sizeOf30, Tryz.sizeOf9]) rfl ⟨rfl, rfl, trivial⟩ rfl (by simp [Instr.fill, cells_int, cells_bool, cells_iface, cells_niliface, cells_slice, str_cells])) ?_)
 replace hS := hS.f2
 refine WL.store_box (pre := []) (old := [i6 0, i6 0, sv ([] : Str), (.slice none 0 0), (.slice none 0 0)]) (rst := []) (cs := [i6 (3 : Int), i6 0, sv ((s_4.take (r_29 - (1 : Int)).toNat).drop (xat_5 + (1 : Int)).toNat), (.slice none 0 0), (.slice none 0 0)]) (arr' := #[i6 (3 : Int), i6 0, sv ((s_4.take (r_29 - (1 : Int)).toNat).drop (xat_5 + (1 : Int)).toNat), (.slice none 0 0), (.slice none 0 0)]) Tryz.sizeOf32 rfl rfl rfl ⟨rfl, rfl, rfl, rfl, rfl, trivial⟩ rfl rfl rfl rfl hS ?_
 clear hS
 intro w hS
 refine WL.nx (WC.sub (m := [(2, (pq b_14))]) ⟨rfl, trivial⟩ (WC.ret (WQ.pass nofun ?_)))
 have hl_48 := load_own_agg (P := Tryz.prog) (cs := [i6 (3 : Int), i6 0, sv ((s_4.take (r_29 - (1 : Int)).toNat).drop (xat_5 + (1 : Int)).toNat), (.slice none 0 0), (.slice none 0 0)]) Tryz.isAgg32 Tryz.sizeOf32 hS rfl
 replace hS := hS.drop
 exact leavec1 (il) rfl rfl hl_48 (⟨(RV.mk (3 : Int) 0 ((s_4.take (r_29 - (1 : Int)).toNat).drop (xat_5 + (1 : Int)).toNat) ([] : List RV) ([] : List RV)), r_29, e_9, bad_11, (.slice none 0 0), (.slice none 0 0), H, hV, rfl, (View.le.refl _), (show I64 (3 : Int) by unfold I64; omega), (show I64 0 by unfold I64; omega), IsSl.nil, IsSl.nil, hr_30, hr_10, hr_12, hS⟩)
 intro hc_182
 replace hV := hV.2 (of_decide_eq_false hc_182)
 refine WC.skip (WQ.next (WC.sr (WL.mv rfl rfl (WL.ma rfl rfl (WL.nx ?_)))))
 obtain ⟨J_56, hJ_57, hV⟩ := hV
 refine WC.meet (fun a w => ∃ (xfrom_54 : Int), J_56 xfrom_54 ∧ I64 xfrom_54 ∧ St w0 H ([(b_2, oc #[sv s_4, i6 xat_5, i6 deep_7, i6 e_9, i6 bad_11, .bool heavy_13] 67)] ++ ([(b_14, Obj.cells #[i6 0, i6 0, sv ([] : Str), (.slice none 0 0), (.slice none 0 0)] 32 (0, 0))] ++ L)) w ∧ Fr 142 [(0, (pq b_2)), (2, (pq b_14)), (3, i6 xat_5), (5, i6 xfrom_54)] a) ?_ ?_
 rintro a w ⟨xfrom_54, hI, hr_55, hS, ha⟩
 refine in_frame ha ?_
 clear ha hV
 have hV := hJ_57 _ hI
 clear hI hJ_57
 refine WC.sr (WL.mv rfl rfl (WL.run hS rfl rfl rfl (ex_nilCheck rfl) (WL.run hS rfl rfl rfl (ex_fieldAddr (o' := 0) Tryz.underlying67 rfl Tryz.sizeOf9 rfl rfl) (WL.run hS rfl rfl rfl (ex_load_box Tryz.isAgg9 rfl rfl) (WL.mv rfl rfl (WL.call rfl rfl rfl (enters0 (vs := [sv s_4, i6 xfrom_54]) Tryz.call112 ⟨rfl, rfl, trivial⟩) (S_rRun hr_55 hS hV) ?_))))))
 clear hV hS
 rintro _ w ⟨r_62, hV, rfl, hr_63, hS⟩
 refine ⟨_, rfl, ?_⟩
 refine WL.ma rfl rfl (WL.nx (WC.sr (WL.mv rfl rfl (WL.run hS rfl rfl rfl (ex_nilCheck rfl) (WL.run hS rfl rfl rfl (ex_fieldAddr (o' := 0) Tryz.underlying67 rfl Tryz.sizeOf9 rfl rfl) (WL.run hS rfl rfl rfl (ex_load_box Tryz.isAgg9 rfl rfl) (WL.mv rfl rfl ?_)))))))
 refine WL.mv rfl rfl ?_
 obtain ⟨hb_65, hV⟩ := hV
 refine WL.run hS rfl rfl rfl (ex_s_lohi Tryz.underlying9 rfl rfl rfl hb_65) (WL.ma rfl rfl (WL.nx (WC.sub (m := [(0, (pq b_2)), (2, (pq b_14)), (3, i6 xat_5), (5, i6 xfrom_54), (6, i6 r_62), (7, sv ((s_4.take r_62.toNat).drop xfrom_54.toNat))]) ⟨rfl, rfl, rfl, rfl, rfl, rfl, trivial⟩ (WC.seq (WC.sr (WL.mv rfl rfl (WL.run hS rfl rfl rfl (ex_s_eql rfl rfl) ?_)))))))
 refine WL.nx ?_
 refine WC.cond rfl ?_ ?_
 intro hc_181
 replace hV := hV.1 (of_decide_eq_true hc_181)
 refine WC.sr (WL.mv rfl rfl (WL.mv rfl rfl (WL.call rfl rfl rfl (enters0 (vs := [(pq b_2), i6 (1 : Int), i6 xat_5]) Tryz.call28 ⟨rfl, rfl, rfl, trivial⟩) (S_rfail hr_6 hr_8 hr_10 hr_12 (show I64 (1 : Int) by unfold I64; omega) hr_6 hS hV) ?_)))
 clear hV hS
 rintro _ w ⟨r_66, r_68, hV, rfl, hr_67, hr_69, hS⟩
 refine ⟨_, rfl, ?_⟩
 refine WL.nx (WC.sub (m := [(2, (pq b_14))]) ⟨rfl, trivial⟩ (WC.sr (WL.run hS rfl rfl rfl (ex_build (vs := []) (zc := #[i6 0, i6 0, sv ([] : Str), (.slice none 0 0), (.slice none 0 0)]) (cs := #[i6 0, i6 0, sv ([] : Str), (.slice none 0 0), (.slice none 0 0)]) (places := #[(0, 1), (1, 1), (2, 1), (3, 1), (4, 1)]) Tryz.underlying32 Tryz.zeroValue32 (fun w => by simp [Tryz.sizeOf2, Tryz.sizeOf3, Tryz.sizeOf30, Tryz.sizeOf9]) rfl trivial rfl (by simp [Instr.fill, cells_int, cells_bool, cells_iface, cells_niliface, cells_slice, str_cells])) ?_)))
 replace hS := hS.f2
 refine WL.store_box (pre := []) (old := [i6 0, i6 0, sv ([] : Str), (.slice none 0 0), (.slice none 0 0)]) (rst := []) (cs := [i6 0, i6 0, sv ([] : Str), (.slice none 0 0), (.slice none 0 0)]) (arr' := #[i6 0, i6 0, sv ([] : Str), (.slice none 0 0), (.slice none 0 0)]) Tryz.sizeOf32 rfl rfl rfl ⟨rfl, rfl, rfl, rfl, rfl, trivial⟩ rfl rfl rfl rfl hS ?_
 clear hS
 intro w hS
 refine WL.nx (WC.ret (WQ.pass nofun ?_))
 have hl_73 := load_own_agg (P := Tryz.prog) (cs := [i6 0, i6 0, sv ([] : Str), (.slice none 0 0), (.slice none 0 0)]) Tryz.isAgg32 Tryz.sizeOf32 hS rfl
 replace hS := hS.drop
 exact leavec1 (il) rfl rfl hl_73 (⟨(RV.mk 0 0 ([] : Str) ([] : List RV) ([] : List RV)), xat_5, r_66, r_68, (.slice none 0 0), (.slice none 0 0), H, hV, rfl, (View.le.refl _), (show I64 0 by unfold I64; omega), (show I64 0 by unfold I64; omega), IsSl.nil, IsSl.nil, hr_6, hr_67, hr_69, hS⟩)
 intro hc_181
 replace hV := hV.2 (of_decide_eq_false hc_181)
 refine WC.skip (WQ.next (WC.sr (WL.mv rfl rfl ?_)))
 obtain ⟨hin_74, hV⟩ := hV
 refine WL.run hS rfl rfl rfl (ex_s_index Tryz.underlying9 rfl rfl hin_74) (WL.call rfl rfl rfl (enters0 (vs := [.int .u8 (byte ((s_4.take r_62.toNat).drop xfrom_54.toNat) (0 : Int))]) Tryz.call113 ⟨rfl, trivial⟩) (S_rDigit (byte_has (x := ((s_4.take r_62.toNat).drop xfrom_54.toNat)) (i := (0 : Int))) hS hV) ?_)
 clear hV hS
 rintro _ w ⟨r_75, hV, rfl, hS⟩
 refine ⟨_, rfl, ?_⟩
 refine WL.ma rfl rfl (WL.nx (WC.seq (WC.sr (WL.mv rfl rfl (WL.nx ?_)))))
 refine WC.cond rfl ?_ ?_
 intro hc_180
 replace hV := hV.1 hc_180
 refine WC.sr (WL.mv rfl rfl (WL.mv rfl rfl (WL.mv rfl rfl (WL.mv rfl rfl (WL.run hS rfl rfl rfl (ex_gtr rfl rfl) (WL.mv rfl rfl (WL.mv rfl rfl ?_)))))))
 refine WL.call rfl rfl rfl (enters0 (vs := [(pq b_2), sv ((s_4.take r_62.toNat).drop xfrom_54.toNat), .bool (decide (xat_5 < xfrom_54)), i6 xat_5, i6 r_62]) Tryz.call114 ⟨rfl, rfl, rfl, rfl, rfl, trivial⟩) (S_rnumber hr_6 hr_8 hr_10 hr_12 hr_6 hr_63 hS hV) ?_
 clear hV hS
 rintro _ w ⟨r_78, r_85, r_87, r_89, v_79, v_80, H_91, hV, rfl, le_92, hr_81, hr_82, h_83, h_84, hr_86, hr_88, hr_90, hS⟩
 refine ⟨_, rfl, ?_⟩
 replace hS := hS.f2
 refine WL.store_box (pre := []) (old := [i6 0, i6 0, sv ([] : Str), (.slice none 0 0), (.slice none 0 0)]) (rst := []) (cs := [i6 r_78.k, i6 r_78.i, sv r_78.t, v_79, v_80]) (arr' := #[i6 r_78.k, i6 r_78.i, sv r_78.t, v_79, v_80]) Tryz.sizeOf32 rfl rfl rfl ⟨rfl, rfl, rfl, (IsSl.one h_83), (IsSl.one h_84), trivial⟩ rfl rfl rfl rfl hS ?_
 clear hS
 intro w hS
 refine WL.nx (WC.sub (m := [(2, (pq b_14))]) ⟨rfl, trivial⟩ (WC.ret (WQ.pass nofun ?_)))
 have hl_93 := load_own_agg (P := Tryz.prog) (cs := [i6 r_78.k, i6 r_78.i, sv r_78.t, v_79, v_80]) Tryz.isAgg32 Tryz.sizeOf32 hS rfl
 replace hS := hS.drop
 exact leavec1 (il) rfl rfl hl_93 (⟨r_78, r_85, r_87, r_89, v_79, v_80, H_91, hV, rfl, ((View.le.refl _).trans le_92), hr_81, hr_82, h_83, h_84, hr_86, hr_88, hr_90, hS⟩)
 intro hc_180
 replace hV := hV.2 hc_180
 refine WC.skip (WQ.next (WC.sr (WL.mv rfl rfl ?_)))
 obtain ⟨hin_94, hV⟩ := hV
 refine WL.run hS rfl rfl rfl (ex_s_index Tryz.underlying9 rfl rfl hin_94) (WL.call rfl rfl rfl (enters0 (vs := [.int .u8 (byte ((s_4.take r_62.toNat).drop xfrom_54.toNat) (0 : Int))]) Tryz.call115 ⟨rfl, trivial⟩) (S_rLetter (byte_has (x := ((s_4.take r_62.toNat).drop xfrom_54.toNat)) (i := (0 : Int))) hS hV) ?_)
 clear hV hS
 rintro _ w ⟨r_95, hV, rfl, hS⟩
 refine ⟨_, rfl, ?_⟩
 refine WL.ma rfl rfl (WL.nx (WC.sub (m := [(0, (pq b_2)), (2, (pq b_14)), (3, i6 xat_5), (5, i6 xfrom_54), (6, i6 r_62), (7, sv ((s_4.take r_62.toNat).drop xfrom_54.toNat)), (9, .bool r_95)]) ⟨rfl, rfl, rfl, rfl, rfl, rfl, rfl, trivial⟩ (WC.seq (WC.seq ?_))))
 refine WC.via (m := [(0, (pq b_2)), (2, (pq b_14)), (3, i6 xat_5), (6, i6 r_62), (7, sv ((s_4.take r_62.toNat).drop xfrom_54.toNat)), (109, .bool (decide ((xat_5 < xfrom_54) ∨ ((!r_95) = true))))]) ?_ ?_
 refine WC.region (WL.mv rfl rfl (WL.mv rfl rfl (WL.run hS rfl rfl rfl (ex_gtr rfl rfl) (WL.mv rfl rfl ?_))))
 rcases Bool.eq_false_or_eq_true (decide (xat_5 < xfrom_54)) with hg_99 | hg_99
 refine WL.skip_g rfl rfl rfl hg_99 rfl rfl (WL.skip_g rfl rfl rfl hg_99 rfl rfl (WL.run hS rfl rfl rfl (ex_pick_t rfl hg_99 rfl) (WL.up (s := 109) rfl (or_t hg_99 : true = decide ((xat_5 < xfrom_54) ∨ ((!r_95) = true))) ?_)))
 exact WL.nil (At.of ⟨rfl, rfl, rfl, rfl, rfl, rfl, trivial⟩)
 refine WL.unguard rfl rfl hg_99 (WL.mv rfl rfl (WL.unguard rfl rfl hg_99 (WL.run hS rfl rfl rfl (ex_not rfl) (WL.run hS rfl rfl rfl (ex_pick_f rfl hg_99 rfl) (WL.up (s := 109) rfl ((dec_true _).trans (or_f hg_99 : decide ((!r_95) = true) = decide ((xat_5 < xfrom_54) ∨ ((!r_95) = true)))) ?_)))))
 exact WL.nil (At.of ⟨rfl, rfl, rfl, rfl, rfl, rfl, trivial⟩)
 refine WQ.next ?_
 refine WC.cond rfl ?_ ?_
 intro hc_179
 replace hV := hV.1 (of_decide_eq_true hc_179)
 refine WC.sr (WL.mv rfl rfl (WL.mv rfl rfl (WL.call rfl rfl rfl (enters0 (vs := [(pq b_2), i6 (1 : Int), i6 xat_5]) Tryz.call28 ⟨rfl, rfl, rfl, trivial⟩) (S_rfail hr_6 hr_8 hr_10 hr_12 (show I64 (1 : Int) by unfold I64; omega) hr_6 hS hV) ?_)))
 clear hV hS
 rintro _ w ⟨r_100, r_102, hV, rfl, hr_101, hr_103, hS⟩
 refine ⟨_, rfl, ?_⟩
 refine WL.nx (WC.sr (WL.run hS rfl rfl rfl (ex_build (vs := []) (zc := #[i6 0, i6 0, sv ([] : Str), (.slice none 0 0), (.slice none 0 0)]) (cs := #[i6 0, i6 0, sv ([] : Str), (.slice none 0 0), (.slice none 0 0)]) (places := #[(0, 1), (1, 1), (2, 1), (3, 1), (4, 1)]) Tryz.underlying32 Tryz.zeroValue32 (fun w => by simp [Tryz.sizeOf2, Tryz.sizeOf3, Tryz.sizeOf30, Tryz.sizeOf9]) rfl trivial rfl (by simp [Instr.fill, cells_int, cells_bool, cells_iface, cells_niliface, cells_slice, str_cells])) ?_))
 replace hS := hS.f2
 refine WL.store_box (pre := []) (old := [i6 0, i6 0, sv ([] : Str), (.slice none 0 0), (.slice none 0 0)]) (rst := []) (cs := [i6 0, i6 0, sv ([] : Str), (.slice none 0 0), (.slice none 0 0)]) (arr' := #[i6 0, i6 0, sv ([] : Str), (.slice none 0 0), (.slice none 0 0)]) Tryz.sizeOf32 rfl rfl rfl ⟨rfl, rfl, rfl, rfl, rfl, trivial⟩ rfl rfl rfl rfl hS ?_
 clear hS
 intro w hS
 refine WL.nx (WC.ret (WQ.pass nofun ?_))
 have hl_107 := load_own_agg (P := Tryz.prog) (cs := [i6 0, i6 0, sv ([] : Str), (.slice none 0 0), (.slice none 0 0)]) Tryz.isAgg32 Tryz.sizeOf32 hS rfl
 replace hS := hS.drop
 exact leavec1 (il) rfl rfl hl_107 (⟨(RV.mk 0 0 ([] : Str) ([] : List RV) ([] : List RV)), xat_5, r_100, r_102, (.slice none 0 0), (.slice none 0 0), H, hV, rfl, (View.le.refl _), (show I64 0 by unfold I64; omega), (show I64 0 by unfold I64; omega), IsSl.nil, IsSl.nil, hr_6, hr_101, hr_103, hS⟩)
 intro hc_179
 replace hV := hV.2 (of_decide_eq_false hc_179)
 refine WC.skip (WQ.next (WC.sr (WL.mv rfl rfl (WL.mv rfl rfl (WL.run hS rfl rfl rfl (ex_nilCheck rfl) (WL.run hS rfl rfl rfl (ex_fieldAddr (o' := 1) Tryz.underlying67 rfl Tryz.sizeOf3 rfl rfl) (WL.store_box (pre := [sv s_4]) (old := [i6 xat_5]) (rst := [i6 deep_7, i6 e_9, i6 bad_11, .bool heavy_13]) (cs := [i6 r_62]) (arr' := #[sv s_4, i6 r_62, i6 deep_7, i6 e_9, i6 bad_11, .bool heavy_13]) Tryz.sizeOf3 rfl rfl rfl ⟨rfl, trivial⟩ rfl rfl rfl rfl hS ?_)))))))
 clear hS
 intro w hS
 refine WL.nx (WC.seq (WC.sr (WL.mv rfl rfl (WL.nx (WC.block (WC.sr (WL.run hS rfl rfl rfl (ex_s_eql rfl rfl) ?_)))))))
 refine WL.ma rfl rfl (WL.nx ?_)
 refine WC.cond rfl ?_ ?_
 intro hc_178
 replace hV := hV.1 (of_decide_eq_true hc_178)
 refine WC.sr (WL.run hS rfl rfl rfl (ex_build (vs := []) (zc := #[i6 0, i6 0, sv ([] : Str), (.slice none 0 0), (.slice none 0 0)]) (cs := #[i6 0, i6 0, sv ([] : Str), (.slice none 0 0), (.slice none 0 0)]) (places := #[(0, 1), (1, 1), (2, 1), (3, 1), (4, 1)]) Tryz.underlying32 Tryz.zeroValue32 (fun w => by simp [Tryz.sizeOf2, Tryz.sizeOf3, Tryz.sizeOf30, Tryz.sizeOf9]) rfl trivial rfl (by simp [Instr.fill, cells_int, cells_bool, cells_iface, cells_niliface, cells_slice, str_cells])) ?_)
 replace hS := hS.f2
 refine WL.store_box (pre := []) (old := [i6 0, i6 0, sv ([] : Str), (.slice none 0 0), (.slice none 0 0)]) (rst := []) (cs := [i6 0, i6 0, sv ([] : Str), (.slice none 0 0), (.slice none 0 0)]) (arr' := #[i6 0, i6 0, sv ([] : Str), (.slice none 0 0), (.slice none 0 0)]) Tryz.sizeOf32 rfl rfl rfl ⟨rfl, rfl, rfl, rfl, rfl, trivial⟩ rfl rfl rfl rfl hS ?_
 clear hS
 intro w hS
 refine WL.nx (WC.sub (m := [(2, (pq b_14))]) ⟨rfl, trivial⟩ (WC.ret (WQ.out nofun (WQ.pass nofun ?_))))
 have hl_110 := load_own_agg (P := Tryz.prog) (cs := [i6 0, i6 0, sv ([] : Str), (.slice none 0 0), (.slice none 0 0)]) Tryz.isAgg32 Tryz.sizeOf32 hS rfl
 replace hS := hS.drop
 exact leavec1 (il) rfl rfl hl_110 (⟨(RV.mk 0 0 ([] : Str) ([] : List RV) ([] : List RV)), r_62, e_9, bad_11, (.slice none 0 0), (.slice none 0 0), H, hV, rfl, (View.le.refl _), (show I64 0 by unfold I64; omega), (show I64 0 by unfold I64; omega), IsSl.nil, IsSl.nil, hr_63, hr_10, hr_12, hS⟩)
 intro hc_178
 replace hV := hV.2 (of_decide_eq_false hc_178)
 refine WC.sr (WL.run hS rfl rfl rfl (ex_s_eql rfl rfl) (WL.ma rfl rfl (WL.nx ?_)))
 refine WC.cond rfl ?_ ?_
 intro hc_177
 replace hV := hV.1 (of_decide_eq_true hc_177)
 refine WC.sr (WL.call rfl rfl rfl (enters0 (vs := [.bool true]) Tryz.call83 ⟨rfl, trivial⟩) (S_rTruth  hS hV) ?_)
 clear hV hS
 rintro _ w ⟨r_111, v_112, v_113, H_118, hV, rfl, le_119, hr_114, hr_115, h_116, h_117, hS⟩
 refine ⟨_, rfl, ?_⟩
 replace hS := hS.f2
 refine WL.store_box (pre := []) (old := [i6 0, i6 0, sv ([] : Str), (.slice none 0 0), (.slice none 0 0)]) (rst := []) (cs := [i6 r_111.k, i6 r_111.i, sv r_111.t, v_112, v_113]) (arr' := #[i6 r_111.k, i6 r_111.i, sv r_111.t, v_112, v_113]) Tryz.sizeOf32 rfl rfl rfl ⟨rfl, rfl, rfl, (IsSl.one h_116), (IsSl.one h_117), trivial⟩ rfl rfl rfl rfl hS ?_
 clear hS
 intro w hS
 refine WL.nx (WC.sub (m := [(2, (pq b_14))]) ⟨rfl, trivial⟩ (WC.ret (WQ.out nofun (WQ.pass nofun ?_))))
 have hl_120 := load_own_agg (P := Tryz.prog) (cs := [i6 r_111.k, i6 r_111.i, sv r_111.t, v_112, v_113]) Tryz.isAgg32 Tryz.sizeOf32 hS rfl
 replace hS := hS.drop
 exact leavec1 (il) rfl rfl hl_120 (⟨r_111, r_62, e_9, bad_11, v_112, v_113, H_118, hV, rfl, ((View.le.refl _).trans le_119), hr_114, hr_115, h_116, h_117, hr_63, hr_10, hr_12, hS⟩)
 intro hc_177
 replace hV := hV.2 (of_decide_eq_false hc_177)
 refine WC.sr (WL.run hS rfl rfl rfl (ex_s_eql rfl rfl) (WL.ma rfl rfl (WL.nx (WC.sub (m := [(0, (pq b_2)), (2, (pq b_14)), (3, i6 xat_5), (7, sv ((s_4.take r_62.toNat).drop xfrom_54.toNat)), (125, .bool (decide (((s_4.take r_62.toNat).drop xfrom_54.toNat) = ([102, 97, 108, 115, 101] : Str))))]) ⟨rfl, rfl, rfl, rfl, rfl, trivial⟩ ?_))))
 refine WC.cond rfl ?_ ?_
 intro hc_176
 replace hV := hV.1 (of_decide_eq_true hc_176)
 refine WC.sr (WL.call rfl rfl rfl (enters0 (vs := [.bool false]) Tryz.call83 ⟨rfl, trivial⟩) (S_rTruth  hS hV) ?_)
 clear hV hS
 rintro _ w ⟨r_121, v_122, v_123, H_128, hV, rfl, le_129, hr_124, hr_125, h_126, h_127, hS⟩
 refine ⟨_, rfl, ?_⟩
 replace hS := hS.f2
 refine WL.store_box (pre := []) (old := [i6 0, i6 0, sv ([] : Str), (.slice none 0 0), (.slice none 0 0)]) (rst := []) (cs := [i6 r_121.k, i6 r_121.i, sv r_121.t, v_122, v_123]) (arr' := #[i6 r_121.k, i6 r_121.i, sv r_121.t, v_122, v_123]) Tryz.sizeOf32 rfl rfl rfl ⟨rfl, rfl, rfl, (IsSl.one h_126), (IsSl.one h_127), trivial⟩ rfl rfl rfl rfl hS ?_
 clear hS
 intro w hS
 refine WL.nx (WC.ret (WQ.out nofun (WQ.pass nofun ?_)))
 have hl_130 := load_own_agg (P := Tryz.prog) (cs := [i6 r_121.k, i6 r_121.i, sv r_121.t, v_122, v_123]) Tryz.isAgg32 Tryz.sizeOf32 hS rfl
 replace hS := hS.drop
 exact leavec1 (il) rfl rfl hl_130 (⟨r_121, r_62, e_9, bad_11, v_122, v_123, H_128, hV, rfl, ((View.le.refl _).trans le_129), hr_124, hr_125, h_126, h_127, hr_63, hr_10, hr_12, hS⟩)
 intro hc_176
 replace hV := hV.2 (of_decide_eq_false hc_176)
 refine WC.skip (WQ.out nofun (WQ.next (WC.sr (WL.mv rfl rfl (WL.call rfl rfl rfl (enters0 (vs := [sv ((s_4.take r_62.toNat).drop xfrom_54.toNat)]) Tryz.call116 ⟨rfl, trivial⟩) (S_rReserved  hS hV) ?_)))))
 clear hV hS
 rintro _ w ⟨r_131, hV, rfl, hS⟩
 refine ⟨_, rfl, ?_⟩
 refine WL.ma rfl rfl (WL.nx ?_)
 obtain ⟨J_143, hJ_144, hV⟩ := hV
 refine WC.meet (fun a w => ∃ (c_139 : Int) (c_141 : Int), J_143 (c_139, c_141) ∧ I64 c_139 ∧ I64 c_141 ∧ St w0 H ([(b_2, oc #[sv s_4, i6 r_62, i6 deep_7, i6 c_139, i6 c_141, .bool heavy_13] 67)] ++ ([(b_14, Obj.cells #[i6 0, i6 0, sv ([] : Str), (.slice none 0 0), (.slice none 0 0)] 32 (0, 0))] ++ L)) w ∧ Fr 142 [(0, (pq b_2)), (2, (pq b_14)), (3, i6 xat_5), (7, sv ((s_4.take r_62.toNat).drop xfrom_54.toNat))] a) ?_ ?_
 rintro a w ⟨c_139, c_141, hI, hr_140, hr_142, hS, ha⟩
 refine in_frame ha ?_
 clear ha hV
 have hV := hJ_144 _ hI
 clear hI hJ_144
 obtain ⟨J_163, hJ_164, hV⟩ := hV
 refine WC.meet (fun a w => ∃ (c_159 : Int) (c_161 : Int), J_163 (c_159, c_161) ∧ I64 c_159 ∧ I64 c_161 ∧ St w0 H ([(b_14, Obj.cells #[i6 0, i6 0, sv ([] : Str), (.slice none 0 0), (.slice none 0 0)] 32 (0, 0))] ++ ([(b_2, oc #[sv s_4, i6 r_62, i6 deep_7, i6 c_159, i6 c_161, .bool heavy_13] 67)] ++ L)) w ∧ Fr 142 [(2, (pq b_14)), (7, sv ((s_4.take r_62.toNat).drop xfrom_54.toNat))] a) ?_ ?_
 rintro a w ⟨c_159, c_161, hI, hr_160, hr_162, hS, ha⟩
 refine in_frame ha ?_
 clear ha hV
 have hV := hJ_164 _ hI
 clear hI hJ_164
 refine WC.sr (WL.mv rfl rfl (WL.run hS rfl rfl rfl (ex_build (vs := [i6 (4 : Int), sv ((s_4.take r_62.toNat).drop xfrom_54.toNat)]) (zc := #[i6 0, i6 0, sv ([] : Str), (.slice none 0 0), (.slice none 0 0)]) (cs := #[i6 (4 : Int), i6 0, sv ((s_4.take r_62.toNat).drop xfrom_54.toNat), (.slice none 0 0), (.slice none 0 0)]) (places := #[(0, 1), (1, 1), (2, 1), (3, 1), (4, 1)]) Tryz.underlying32 Tryz.zeroValue32 (fun w => by simp [Tryz.sizeOf2, Tryz.sizeOf3, Tryz.sizeOf30, Tryz.sizeOf9]) rfl ⟨rfl, rfl, trivial⟩ rfl (by simp [Instr.fill, cells_int, cells_bool, cells_iface, cells_niliface, cells_slice, str_cells])) (WL.store_box (pre := []) (old := [i6 0, i6 0, sv ([] : Str), (.slice none 0 0), (.slice none 0 0)]) (rst := []) (cs := [i6 (4 : Int), i6 0, sv ((s_4.take r_62.toNat).drop xfrom_54.toNat), (.slice none 0 0), (.slice none 0 0)]) (arr' := #[i6 (4 : Int), i6 0, sv ((s_4.take r_62.toNat).drop xfrom_54.toNat), (.slice none 0 0), (.slice none 0 0)]) Tryz.sizeOf32 rfl rfl rfl ⟨rfl, rfl, rfl, rfl, rfl, trivial⟩ rfl rfl rfl rfl hS ?_)))
 clear hS
 intro w hS
 refine WL.nx (WC.ret ?_)
 have hl_175 := load_own_agg (P := Tryz.prog) (cs := [i6 (4 : Int), i6 0, sv ((s_4.take r_62.toNat).drop xfrom_54.toNat), (.slice none 0 0), (.slice none 0 0)]) Tryz.isAgg32 Tryz.sizeOf32 hS rfl
 replace hS := hS.drop
 exact leavec1 (il) rfl rfl hl_175 (⟨(RV.mk (4 : Int) 0 ((s_4.take r_62.toNat).drop xfrom_54.toNat) ([] : List RV) ([] : List RV)), r_62, c_159, c_161, (.slice none 0 0), (.slice none 0 0), H, hV, rfl, (View.le.refl _), (show I64 (4 : Int) by unfold I64; omega), (show I64 0 by unfold I64; omega), IsSl.nil, IsSl.nil, hr_63, hr_160, hr_162, hS⟩)
 clear hJ_164
 refine WC.sr (WL.mv rfl rfl ?_)
 obtain ⟨hl_165, hV⟩ := hV
 refine WL.run hS rfl rfl rfl (ex_s_len Tryz.underlying9 rfl) (WL.run hS rfl rfl rfl (ex_gtr rfl rfl) (WL.nx ?_))
 refine WC.cond rfl ?_ ?_
 intro hc_172
 replace hV := hV.1 (of_decide_eq_true hc_172)
 refine WC.region (WL.mv rfl rfl (WL.mv rfl rfl (WL.call rfl rfl rfl (enters0 (vs := [(pq b_2), i6 (5 : Int), i6 xat_5]) Tryz.call28 ⟨rfl, rfl, rfl, trivial⟩) (S_rfail hr_63 hr_8 hr_140 hr_142 (show I64 (5 : Int) by unfold I64; omega) hr_6 hS hV) ?_)))
 clear hV hS
 rintro _ w ⟨r_167, r_169, hV, rfl, hr_168, hr_170, hS⟩
 refine ⟨_, rfl, ?_⟩
 refine WL.nil ?_
 replace hS := hS.f2
 exact WQ.there fun a ha => ⟨r_167, r_169, hV, hr_168, hr_170, hS, ha.of_sub ⟨rfl, rfl, trivial⟩⟩
 intro hc_172
 replace hV := hV.2 (of_decide_eq_false hc_172)
 refine WC.skip ?_
 replace hS := hS.f2
 exact WQ.there fun a ha => ⟨c_139, c_141, hV, hr_140, hr_142, hS, ha.of_sub ⟨rfl, rfl, trivial⟩⟩
 clear hJ_144
 refine WC.sr (WL.mv rfl rfl (WL.nx ?_))
 refine WC.cond rfl ?_ ?_
 intro hc_150
 replace hV := hV.1 hc_150
 refine WC.region (WL.mv rfl rfl (WL.mv rfl rfl (WL.call rfl rfl rfl (enters0 (vs := [(pq b_2), i6 (1 : Int), i6 xat_5]) Tryz.call28 ⟨rfl, rfl, rfl, trivial⟩) (S_rfail hr_63 hr_8 hr_10 hr_12 (show I64 (1 : Int) by unfold I64; omega) hr_6 hS hV) ?_)))
 clear hV hS
 rintro _ w ⟨r_145, r_147, hV, rfl, hr_146, hr_148, hS⟩
 refine ⟨_, rfl, ?_⟩
 refine WL.nil ?_
 replace hS := hS.f2.f2
 exact WQ.there fun a ha => ⟨r_145, r_147, hV, hr_146, hr_148, hS, ha.of_sub ⟨rfl, rfl, rfl, rfl, trivial⟩⟩
 intro hc_150
 replace hV := hV.2 hc_150
 refine WC.skip ?_
 replace hS := hS.f2.f2
 exact WQ.there fun a ha => ⟨e_9, bad_11, hV, hr_10, hr_12, hS, ha.of_sub ⟨rfl, rfl, rfl, rfl, trivial⟩⟩
 clear hJ_57
 refine WC.sr (WL.mv rfl rfl (WL.run hS rfl rfl rfl (ex_nilCheck rfl) (WL.run hS rfl rfl rfl (ex_fieldAddr (o' := 0) Tryz.underlying67 rfl Tryz.sizeOf9 rfl rfl) (WL.run hS rfl rfl rfl (ex_load_box Tryz.isAgg9 rfl rfl) (WL.mv rfl rfl ?_)))))
 obtain ⟨hin_58, hV⟩ := hV
 refine WL.run hS rfl rfl rfl (ex_s_index Tryz.underlying9 rfl rfl hin_58) (WL.run hS rfl rfl rfl (ex_eql rfl rfl) (WL.nx (WC.sub (m := [(0, (pq b_2)), (2, (pq b_14)), (3, i6 xat_5), (5, i6 xat_5), (66, .bool (decide ((byte s_4 xat_5) = (45 : Int))))]) ⟨rfl, rfl, rfl, rfl, rfl, trivial⟩ ?_)))
 refine WC.cond rfl ?_ ?_
 intro hc_61
 replace hV := hV.1 (of_decide_eq_true hc_61)
 refine WC.region (WL.mv rfl rfl ?_)
 obtain ⟨hi_60, hV⟩ := hV
 refine WL.run hS rfl rfl rfl (ex_add rfl rfl hi_60) (WL.ma rfl rfl (WL.nil ?_))
 replace hS := hS.f2.f2
 exact WQ.there fun a ha => ⟨(xat_5 + (1 : Int)), hV, hi_60, hS, ha.of_sub ⟨rfl, rfl, rfl, rfl, trivial⟩⟩
 intro hc_61
 replace hV := hV.2 (of_decide_eq_false hc_61)
 refine WC.skip ?_
 replace hS := hS.f2.f2
 exact WQ.there fun a ha => ⟨xat_5, hV, hr_6, hS, ha.of_sub ⟨rfl, rfl, rfl, rfl, trivial⟩⟩

def H_rvalue (G : Str → Int → Int → Int → Int → Bool → (RV → Int → Int → Int → Int → Bool → Prop) → Prop) : Prop := ∀ {w0 : World} {H : View} {L : Seg} {w : World} {b_2 : Nat} {s_4 : Str} {xat_5 : Int} {deep_7 : Int} {e_9 : Int} {bad_11 : Int} {heavy_13 : Bool} {Q : RV → Int → Int → Int → Int → Bool → Prop} (hr_6 : I64 xat_5) (hr_8 : I64 deep_7) (hr_10 : I64 e_9) (hr_12 : I64 bad_11) (hS : St w0 H ([(b_2, oc #[sv s_4, i6 xat_5, i6 deep_7, i6 e_9, i6 bad_11, .bool heavy_13] 67)] ++ L) w) (hV : G s_4 xat_5 deep_7 e_9 bad_11 heavy_13 Q), Calls Tryz.prog 26 #[(pq b_2)] w fun e w' => ∃ (r1 : RV) (r2 : Int) (r3 : Int) (r4 : Int) (r5 : Int) (r6 : Bool) (u1 : Value) (w1 : Value) (H' : View), Q r1 r2 r3 r4 r5 r6 ∧ e = .returned (.agg #[i6 r1.k, i6 r1.i, sv r1.t, u1, w1]) ∧ View.le H H' ∧ I64 r1.k ∧ I64 r1.i ∧ IsSl H' cR u1 r1.ks ∧ IsSl H' cR w1 r1.vs ∧ I64 r2 ∧ I64 r3 ∧ I64 r4 ∧ I64 r5 ∧ St w0 H' ([(b_2, oc #[sv s_4, i6 r2, i6 r3, i6 r4, i6 r5, .bool r6] 67)] ++ L) w'

theorem S_rvalues {G : Str → Int → Int → Int → Int → Bool → (RV → Int → Int → Int → Int → Bool → Prop) → Prop} (hG : H_rvalue G) {w0 : World} {H : View} {L : Seg} {w : World} {b_2 : Nat} {s_4 : Str} {xat_5 : Int} {deep_7 : Int} {e_9 : Int} {bad_11 : Int} {heavy_13 : Bool} {last_14 : Str} {least_15 : Int} {pairs_17 : Bool} {Q : (List RV) → (List RV) → Int → Int → Int → Int → Bool → Prop} (hr_6 : I64 xat_5) (hr_8 : I64 deep_7) (hr_10 : I64 e_9) (hr_12 : I64 bad_11) (hr_16 : I64 least_15) (hS : St w0 H ([(b_2, oc #[sv s_4, i6 xat_5, i6 deep_7, i6 e_9, i6 bad_11, .bool heavy_13] 67)] ++ L) w) (hV : V_rvalues G s_4 xat_5 deep_7 e_9 bad_11 heavy_13 last_14 least_15 pairs_17 Q) :
 Calls Tryz.prog 69 #[(pq b_2), sv last_14, i6 least_15, .bool pairs_17] w fun e w' => ∃ (r1 : List RV) (r2 : List RV) (r3 : Int) (r4 : Int) (r5 : Int) (r6 : Int) (r7 : Bool) (v1 : Value) (fp1 : Seg) (v2 : Value) (fp2 : Seg) (H' : View), Q r1 r2 r3 r4 r5 r6 r7 ∧ e = .returned (.tuple #[v1, v2]) ∧ View.le H H' ∧ OwnSl H' cR 32 v1 r1 fp1 ∧ OwnSl H' cR 32 v2 r2 fp2 ∧ I64 r3 ∧ I64 r4 ∧ I64 r5 ∧ I64 r6 ∧ St w0 H' (fp1 ++ (fp2 ++ ([(b_2, oc #[sv s_4, i6 r3, i6 r4, i6 r5, i6 r6, .bool r7] 67)] ++ L))) w' := by
 unfold V_rvalues at hV
 refine enter Tryz.func69 rfl Tryz.ntmps69 rfl (lk_args_cons (d := 0) (v := (pq b_2)) rfl (lk_args_cons (d := 1) (v := sv last_14) rfl (lk_args_cons (d := 2) (v := i6 least_15) rfl (lk_args_cons (d := 3) (v := .bool pairs_17) rfl (lk_args_nil _))))) (WC.sr (WL.ma rfl rfl (WL.ma rfl rfl (WL.nx (WC.sr (WL.ma rfl rfl (WL.nx ?_)))))))
 refine WC.sr (WL.ma rfl rfl (WL.nx (WC.sr (WL.mv rfl rfl (WL.mv rfl rfl (WL.run hS rfl rfl rfl (ex_nilCheck rfl) (WL.run hS rfl rfl rfl (ex_fieldAddr (o' := 2) Tryz.underlying67 rfl Tryz.sizeOf3 rfl rfl) ?_)))))))
 refine WL.run hS rfl rfl rfl (ex_load_box Tryz.isAgg3 rfl rfl) ?_
 obtain ⟨hi_23, hV⟩ := hV
 refine WL.run hS rfl rfl rfl (ex_add rfl rfl hi_23) (WL.run hS rfl rfl rfl (ex_nilCheck rfl) (WL.run hS rfl rfl rfl (ex_fieldAddr (o' := 2) Tryz.underlying67 rfl Tryz.sizeOf3 rfl rfl) (WL.store_box (pre := [sv s_4, i6 xat_5]) (old := [i6 deep_7]) (rst := [i6 e_9, i6 bad_11, .bool heavy_13]) (cs := [i6 (deep_7 + (1 : Int))]) (arr' := #[sv s_4, i6 xat_5, i6 (deep_7 + (1 : Int)), i6 e_9, i6 bad_11, .bool heavy_13]) Tryz.sizeOf3 rfl rfl rfl ⟨rfl, trivial⟩ rfl rfl rfl rfl hS ?_)))
 clear hS
 intro w hS
 refine WL.nx (WC.sub (m := [(0, (pq b_2)), (1, sv last_14), (2, i6 least_15), (3, .bool pairs_17), (10, (.slice none 0 0)), (11, (.slice none 0 0))]) ⟨rfl, rfl, rfl, rfl, rfl, rfl, trivial⟩ ?_)
 obtain ⟨J_38, hJ_39, hV⟩ := hV
 refine WC.meet (fun a w => ∃ (c_34 : Int) (c_36 : Int), J_38 (c_34, c_36) ∧ I64 c_34 ∧ I64 c_36 ∧ St w0 H ([(b_2, oc #[sv s_4, i6 xat_5, i6 (deep_7 + (1 : Int)), i6 c_34, i6 c_36, .bool heavy_13] 67)] ++ L) w ∧ Fr 84 [(0, (pq b_2)), (1, sv last_14), (2, i6 least_15), (3, .bool pairs_17), (10, (.slice none 0 0)), (11, (.slice none 0 0))] a) ?_ ?_
 rintro a w ⟨c_34, c_36, hI, hr_35, hr_37, hS, ha⟩
 refine in_frame ha ?_
 clear ha hV
 have hV := hJ_39 _ hI
 clear hI hJ_39
 refine WC.sr (WL.ma rfl rfl (WL.nx ?_))
 obtain ⟨J_59, hJ_60, hV⟩ := hV
 refine WC.meet (fun a w => ∃ (c_56 : Int) (xend_58 : Bool), J_59 (c_56, xend_58) ∧ I64 c_56 ∧ St w0 H ([(b_2, oc #[sv s_4, i6 c_56, i6 (deep_7 + (1 : Int)), i6 c_34, i6 c_36, .bool heavy_13] 67)] ++ L) w ∧ Fr 84 [(0, (pq b_2)), (1, sv last_14), (3, .bool pairs_17), (10, (.slice none 0 0)), (11, (.slice none 0 0)), (12, .bool xend_58)] a) ?_ ?_
 rintro a w ⟨c_56, xend_58, hI, hr_57, hS, ha⟩
 refine in_frame ha ?_
 clear ha hV
 have hV := hJ_60 _ hI
 clear hI hJ_60
 refine WC.seq (WC.block ?_)
 replace hS := hS.nilseg
 replace hS := hS.nilseg
 replace hS := hS.f2.f3
 obtain ⟨I_532, mu_533, hI_684, hV⟩ := hV
 refine WC.loop (σ := Int × Int × Int × Int × Bool × (List RV) × (List RV) × Bool) (fun s a w => ∃ (c_365 : Int) (c_367 : Int) (c_369 : Int) (c_371 : Int) (c_373 : Bool) (keys_375 : List RV) (vals_380 : List RV) (xend_384 : Bool) (H_363 : View) (v_376 : Value) (fp_377 : Seg) (v_381 : Value) (fp_382 : Seg), s = (c_365, c_367, c_369, c_371, c_373, keys_375, vals_380, xend_384) ∧ I_532 (c_365, c_367, c_369, c_371, c_373, keys_375, vals_380, xend_384) ∧ View.le H H_363 ∧ I64 c_365 ∧ I64 c_367 ∧ I64 c_369 ∧ I64 c_371 ∧ OwnSl H_363 cR 32 v_376 keys_375 fp_377 ∧ OwnSl H_363 cR 32 v_381 vals_380 fp_382 ∧ St w0 H_363 ([(b_2, oc #[sv s_4, i6 c_365, i6 c_367, i6 c_369, i6 c_371, .bool c_373] 67)] ++ (fp_377 ++ (fp_382 ++ L))) w ∧ Fr 84 [(0, (pq b_2)), (1, sv last_14), (3, .bool pairs_17), (10, v_376), (11, v_381), (12, .bool xend_384)] a) mu_533 (c_56, (deep_7 + (1 : Int)), c_34, c_36, heavy_13, ([] : List RV), ([] : List RV), xend_58) ?_ ?_
 exact fun a ha => ⟨c_56, (deep_7 + (1 : Int)), c_34, c_36, heavy_13, ([] : List RV), ([] : List RV), xend_58, H, (.slice none 0 0), ([] : Seg), (.slice none 0 0), ([] : Seg), rfl, hI_684, (View.le.refl _), hr_57, hi_23, hr_35, hr_37, OwnSl.nil, OwnSl.nil, hS, ha.of_sub ⟨rfl, rfl, rfl, rfl, rfl, rfl, trivial⟩⟩
 clear hS hI_684
 rintro _ a w ⟨c_365, c_367, c_369, c_371, c_373, keys_375, vals_380, xend_384, H_363, v_376, fp_377, v_381, fp_382, rfl, hI, le_364, hr_366, hr_368, hr_370, hr_372, h_378, h_383, hS, ha⟩
 refine in_frame ha ?_
 clear ha
 replace hV := hV _ hI
 clear hI
 refine WC.seq ?_
 obtain ⟨J_538, hJ_539, hV⟩ := hV
 refine WC.meet (fun a w => ∃ (x_537 : Bool), J_538 x_537 ∧ St w0 H_363 ([(b_2, oc #[sv s_4, i6 c_365, i6 c_367, i6 c_369, i6 c_371, .bool c_373] 67)] ++ (fp_377 ++ (fp_382 ++ L))) w ∧ Fr 84 [(0, (pq b_2)), (1, sv last_14), (3, .bool pairs_17), (10, v_376), (11, v_381), (12, .bool xend_384), (51, .bool x_537)] a) ?_ ?_
 rintro a w ⟨x_537, hI, hS, ha⟩
 refine in_frame ha ?_
 clear ha hV
 have hV := hJ_539 _ hI
 clear hI hJ_539
 refine WC.cond rfl ?_ ?_
 intro hc_683
 replace hV := hV.1 hc_683
 refine WC.skip (WQ.next (WC.block (WC.sr (WL.mv rfl rfl (WL.call rfl rfl rfl (enters0 (vs := [(pq b_2)]) Tryz.call26 ⟨rfl, trivial⟩) (hG hr_366 hr_368 hr_370 hr_372 hS hV) ?_)))))
 clear hV hS
 rintro _ w ⟨r_542, r_549, r_551, r_553, r_555, r_557, v_543, v_544, H_558, hV, rfl, le_559, hr_545, hr_546, h_547, h_548, hr_550, hr_552, hr_554, hr_556, hS⟩
 refine ⟨_, rfl, ?_⟩
 refine WL.alloc (arr := #[i6 0, i6 0, sv ([] : Str), (.slice none 0 0), (.slice none 0 0)]) rfl Tryz.zeroValue32 rfl hS ?_
 clear hS
 intro b_560 w hS
 refine WL.store_box (pre := []) (old := [i6 0, i6 0, sv ([] : Str), (.slice none 0 0), (.slice none 0 0)]) (rst := []) (cs := [i6 r_542.k, i6 r_542.i, sv r_542.t, v_543, v_544]) (arr' := #[i6 r_542.k, i6 r_542.i, sv r_542.t, v_543, v_544]) Tryz.sizeOf32 rfl rfl rfl ⟨rfl, rfl, rfl, (IsSl.one h_547), (IsSl.one h_548), trivial⟩ rfl rfl rfl rfl hS ?_
 clear hS
 intro w hS
 refine WL.nx (WC.sr (WL.mv rfl rfl (WL.run hS rfl rfl rfl (ex_load_box_agg (cs := [i6 r_542.k, i6 r_542.i, sv r_542.t, v_543, v_544]) Tryz.isAgg32 Tryz.sizeOf32 rfl rfl rfl) (WL.builds (c := cR) (xs := [r_542]) (vs := [.agg #[i6 r_542.k, i6 r_542.i, sv r_542.t, v_543, v_544]]) (css := [[i6 r_542.k, i6 r_542.i, sv r_542.t, v_543, v_544]]) rfl Tryz.underlying30 Tryz.info32 rfl ⟨rfl, trivial⟩ rfl (by decide) rfl (by simp; rfl) ⟨[i6 r_542.k, i6 r_542.i, sv r_542.t, v_543, v_544], _, rfl, (cR_rep.2 ⟨_, _, rfl, hr_545, hr_546, h_547, h_548⟩), rfl⟩ hS rfl (by decide) ?_))))
 clear hS
 intro v_565 w fp_566 h_567 hS
 obtain ⟨hr_568, hV⟩ := hV
 replace hS := hS.f4
 refine WL.append (c := cR) (xs := keys_375) (ys := ([r_542])) rfl Tryz.underlying30 Tryz.info32 rfl rfl rfl hS (h_378.mono le_559) (h_567.src hS.f2) hr_568.1 hr_568.2 ?_
 clear hS
 intro v_569 w fp_570 h_571 hS
 refine WL.ma rfl rfl (WL.nx ?_)
 replace hS := hS.f3.drop
 replace hS := hS.f2.drop
 obtain ⟨J_628, hJ_629, hV⟩ := hV
 refine WC.meet (fun a w => ∃ (c_614 : Int) (c_616 : Int) (c_618 : Int) (c_620 : Int) (c_622 : Bool) (vals_624 : List RV) (H_612 : View) (v_625 : Value) (fp_626 : Seg), J_628 (c_614, c_616, c_618, c_620, c_622, vals_624) ∧ View.le H_558 H_612 ∧ I64 c_614 ∧ I64 c_616 ∧ I64 c_618 ∧ I64 c_620 ∧ OwnSl H_612 cR 32 v_625 vals_624 fp_626 ∧ St w0 H_612 ([(b_2, oc #[sv s_4, i6 c_614, i6 c_616, i6 c_618, i6 c_620, .bool c_622] 67)] ++ (fp_570 ++ (fp_626 ++ L))) w ∧ Fr 84 [(0, (pq b_2)), (1, sv last_14), (3, .bool pairs_17), (10, v_569), (11, v_625), (12, .bool xend_384)] a) ?_ ?_
 rintro a w ⟨c_614, c_616, c_618, c_620, c_622, vals_624, H_612, v_625, fp_626, hI, le_613, hr_615, hr_617, hr_619, hr_621, h_627, hS, ha⟩
 refine in_frame ha ?_
 clear ha hV
 have hV := hJ_629 _ hI
 clear hI hJ_629
 refine WC.sr (WL.mv rfl rfl (WL.call rfl rfl rfl (enters0 (vs := [(pq b_2), sv ([44] : Str)]) Tryz.call68 ⟨rfl, rfl, trivial⟩) (S_rsign hr_615 hr_617 hr_619 hr_621 hS hV) ?_))
 clear hV hS
 rintro _ w ⟨r_669, r_670, hV, rfl, hr_671, hS⟩
 refine ⟨_, rfl, ?_⟩
 refine WL.ma rfl rfl (WL.nx (WC.sr (WL.mv rfl rfl (WL.run hS rfl rfl rfl (ex_not rfl) (WL.nx ?_)))))
 refine WC.cond rfl ?_ ?_
 intro hc_680
 replace hV := hV.1 hc_680
 refine WC.sr (WL.mv rfl rfl (WL.mv rfl rfl (WL.call rfl rfl rfl (enters0 (vs := [(pq b_2), sv last_14]) Tryz.call110 ⟨rfl, rfl, trivial⟩) (S_rwant hr_671 hr_617 hr_619 hr_621 hS hV) ?_)))
 clear hV hS
 rintro _ w ⟨r_673, r_675, r_677, hV, rfl, hr_674, hr_676, hr_678, hS⟩
 refine ⟨_, rfl, ?_⟩
 refine WL.nx (WC.region (WL.ma rfl rfl (WL.nil (WQ.out nofun ?_))))
 replace hS := hS.f3.f3.f3
 exact WQ.there fun a ha => ⟨(r_673, c_616, r_675, r_677, c_622, (keys_375 ++ ([r_542])), vals_624, true), ⟨r_673, c_616, r_675, r_677, c_622, (keys_375 ++ ([r_542])), vals_624, true, H_612, v_569, fp_570, v_625, fp_626, rfl, hV.1, ((((View.le.refl _).trans le_364).trans le_559).trans le_613), hr_674, hr_617, hr_676, hr_678, (h_571.mono le_613), h_627, hS, ha.of_sub ⟨rfl, rfl, rfl, rfl, rfl, rfl, trivial⟩⟩, hV.2⟩
 intro hc_680
 replace hV := hV.2 hc_680
 refine WC.skip (WQ.out nofun ?_)
 replace hS := hS.f3.f3.f3
 exact WQ.there fun a ha => ⟨(r_670, c_616, c_618, c_620, c_622, (keys_375 ++ ([r_542])), vals_624, xend_384), ⟨r_670, c_616, c_618, c_620, c_622, (keys_375 ++ ([r_542])), vals_624, xend_384, H_612, v_569, fp_570, v_625, fp_626, rfl, hV.1, ((((View.le.refl _).trans le_364).trans le_559).trans le_613), hr_671, hr_617, hr_619, hr_621, (h_571.mono le_613), h_627, hS, ha.of_sub ⟨rfl, rfl, rfl, rfl, rfl, rfl, trivial⟩⟩, hV.2⟩
 clear hJ_629
 refine WC.sr (WL.mv rfl rfl (WL.nx ?_))
 refine WC.cond rfl ?_ ?_
 intro hc_668
 replace hV := hV.1 hc_668
 refine WC.sr (WL.mv rfl rfl ?_)
 replace hS := hS.f2
 refine WL.call rfl rfl rfl (enters0 (vs := [(pq b_2), sv ([58] : Str)]) Tryz.call110 ⟨rfl, rfl, trivial⟩) (S_rwant hr_550 hr_552 hr_554 hr_556 hS hV) ?_
 clear hV hS
 rintro _ w ⟨r_630, r_632, r_634, hV, rfl, hr_631, hr_633, hr_635, hS⟩
 refine ⟨_, rfl, ?_⟩
 refine WL.nx (WC.sub (m := [(0, (pq b_2)), (1, sv last_14), (3, .bool pairs_17), (10, v_569), (11, v_381), (12, .bool xend_384)]) ⟨rfl, rfl, rfl, rfl, rfl, rfl, trivial⟩ (WC.sr (WL.mv rfl rfl (WL.call rfl rfl rfl (enters0 (vs := [(pq b_2)]) Tryz.call26 ⟨rfl, trivial⟩) (hG hr_631 hr_552 hr_633 hr_635 hS hV) ?_))))
 clear hV hS
 rintro _ w ⟨r_637, r_644, r_646, r_648, r_650, r_652, v_638, v_639, H_653, hV, rfl, le_654, hr_640, hr_641, h_642, h_643, hr_645, hr_647, hr_649, hr_651, hS⟩
 refine ⟨_, rfl, ?_⟩
 refine WL.alloc (arr := #[i6 0, i6 0, sv ([] : Str), (.slice none 0 0), (.slice none 0 0)]) rfl Tryz.zeroValue32 rfl hS ?_
 clear hS
 intro b_655 w hS
 refine WL.store_box (pre := []) (old := [i6 0, i6 0, sv ([] : Str), (.slice none 0 0), (.slice none 0 0)]) (rst := []) (cs := [i6 r_637.k, i6 r_637.i, sv r_637.t, v_638, v_639]) (arr' := #[i6 r_637.k, i6 r_637.i, sv r_637.t, v_638, v_639]) Tryz.sizeOf32 rfl rfl rfl ⟨rfl, rfl, rfl, (IsSl.one h_642), (IsSl.one h_643), trivial⟩ rfl rfl rfl rfl hS ?_
 clear hS
 intro w hS
 refine WL.nx (WC.region (WL.mv rfl rfl (WL.run hS rfl rfl rfl (ex_load_box_agg (cs := [i6 r_637.k, i6 r_637.i, sv r_637.t, v_638, v_639]) Tryz.isAgg32 Tryz.sizeOf32 rfl rfl rfl) (WL.builds (c := cR) (xs := [r_637]) (vs := [.agg #[i6 r_637.k, i6 r_637.i, sv r_637.t, v_638, v_639]]) (css := [[i6 r_637.k, i6 r_637.i, sv r_637.t, v_638, v_639]]) rfl Tryz.underlying30 Tryz.info32 rfl ⟨rfl, trivial⟩ rfl (by decide) rfl (by simp; rfl) ⟨[i6 r_637.k, i6 r_637.i, sv r_637.t, v_638, v_639], _, rfl, (cR_rep.2 ⟨_, _, rfl, hr_640, hr_641, h_642, h_643⟩), rfl⟩ hS rfl (by decide) ?_))))
 clear hS
 intro v_660 w fp_661 h_662 hS
 obtain ⟨hr_663, hV⟩ := hV
 replace hS := hS.f5
 refine WL.append (c := cR) (xs := vals_380) (ys := ([r_637])) rfl Tryz.underlying30 Tryz.info32 rfl rfl rfl hS ((h_383.mono le_559).mono le_654) (h_662.src hS.f2) hr_663.1 hr_663.2 ?_
 clear hS
 intro v_664 w fp_665 h_666 hS
 refine WL.ma rfl rfl (WL.nil ?_)
 replace hS := hS.f2.drop
 replace hS := hS.f2.drop
 replace hS := hS.f3.f3
 exact WQ.there fun a ha => ⟨r_644, r_646, r_648, r_650, r_652, (vals_380 ++ ([r_637])), H_653, v_664, fp_665, hV, ((View.le.refl _).trans le_654), hr_645, hr_647, hr_649, hr_651, h_666, hS, ha.of_sub ⟨rfl, rfl, rfl, rfl, rfl, rfl, trivial⟩⟩
 intro hc_668
 replace hV := hV.2 hc_668
 refine WC.skip ?_
 replace hS := hS.f3.f2.f3
 exact WQ.there fun a ha => ⟨r_549, r_551, r_553, r_555, r_557, vals_380, H_558, v_381, fp_382, hV, (View.le.refl _), hr_550, hr_552, hr_554, hr_556, (h_383.mono le_559), hS, ha.of_sub ⟨rfl, rfl, rfl, rfl, rfl, rfl, trivial⟩⟩
 intro hc_683
 replace hV := hV.2 hc_683
 refine WC.exit (WQ.pass nofun (WQ.pass nofun (WQ.hit (WQ.next (WC.sr (WL.mv rfl rfl (WL.mv rfl rfl ?_)))))))
 refine WL.run hS rfl rfl rfl (ex_nilCheck rfl) (WL.run hS rfl rfl rfl (ex_fieldAddr (o' := 2) Tryz.underlying67 rfl Tryz.sizeOf3 rfl rfl) (WL.run hS rfl rfl rfl (ex_load_box Tryz.isAgg3 rfl rfl) ?_))
 obtain ⟨hi_682, hV⟩ := hV
 refine WL.run hS rfl rfl rfl (ex_sub rfl rfl hi_682) (WL.run hS rfl rfl rfl (ex_nilCheck rfl) (WL.run hS rfl rfl rfl (ex_fieldAddr (o' := 2) Tryz.underlying67 rfl Tryz.sizeOf3 rfl rfl) (WL.store_box (pre := [sv s_4, i6 c_365]) (old := [i6 c_367]) (rst := [i6 c_369, i6 c_371, .bool c_373]) (cs := [i6 (c_367 - (1 : Int))]) (arr' := #[sv s_4, i6 c_365, i6 (c_367 - (1 : Int)), i6 c_369, i6 c_371, .bool c_373]) Tryz.sizeOf3 rfl rfl rfl ⟨rfl, trivial⟩ rfl rfl rfl rfl hS ?_)))
 clear hS
 intro w hS
 refine WL.nx (WC.sub (m := [(10, v_376), (11, v_381)]) ⟨rfl, rfl, trivial⟩ (WC.sr (WL.mv rfl rfl (WL.mv rfl rfl (WL.ma rfl rfl (WL.ma rfl rfl (WL.nx ?_)))))))
 refine WC.ret ?_
 replace hS := hS.f3.f3
 exact leave2 rfl rfl rfl (⟨keys_375, vals_380, c_365, (c_367 - (1 : Int)), c_369, c_371, c_373, v_376, fp_377, v_381, fp_382, H_363, hV, rfl, ((View.le.refl _).trans le_364), h_378, h_383, hr_366, hi_682, hr_370, hr_372, hS⟩)
 clear hJ_539
 refine WC.region (WL.mv rfl rfl (WL.run hS rfl rfl rfl (ex_nilCheck rfl) (WL.run hS rfl rfl rfl (ex_fieldAddr (o' := 3) Tryz.underlying67 rfl Tryz.sizeOf3 rfl rfl) (WL.run hS rfl rfl rfl (ex_load_box Tryz.isAgg3 rfl rfl) (WL.run hS rfl rfl rfl (ex_eql rfl rfl) (WL.mv rfl rfl ?_))))))
 rcases Bool.eq_false_or_eq_true (decide (c_369 = (0 : Int))) with hg_541 | hg_541
 replace hV := hV.1 (of_decide_eq_true hg_541)
 refine WL.unguard rfl rfl hg_541 (WL.mv rfl rfl (WL.unguard rfl rfl hg_541 (WL.run hS rfl rfl rfl (ex_not rfl) (WL.run hS rfl rfl rfl (ex_pick_t rfl hg_541 rfl) (WL.nil ?_)))))
 replace hS := hS.f3.f3.f3
 exact WQ.there fun a ha => ⟨(!xend_384), hV, hS, ha.of_sub ⟨rfl, rfl, rfl, rfl, rfl, rfl, rfl, trivial⟩⟩
 replace hV := hV.2 (of_decide_eq_false hg_541)
 refine WL.skip_g rfl rfl rfl hg_541 rfl rfl (WL.skip_g rfl rfl rfl hg_541 rfl rfl (WL.run hS rfl rfl rfl (ex_pick_f rfl hg_541 rfl) (WL.nil ?_)))
 replace hS := hS.f3.f3.f3
 exact WQ.there fun a ha => ⟨false, hV, hS, ha.of_sub ⟨rfl, rfl, rfl, rfl, rfl, rfl, rfl, trivial⟩⟩
 clear hJ_60
 refine WC.sr (WL.mv rfl rfl (WL.run hS rfl rfl rfl (ex_eql rfl rfl) (WL.nx ?_)))
 refine WC.cond rfl ?_ ?_
 intro hc_66
 replace hV := hV.1 (of_decide_eq_true hc_66)
 refine WC.region (WL.mv rfl rfl (WL.mv rfl rfl (WL.call rfl rfl rfl (enters0 (vs := [(pq b_2), sv last_14]) Tryz.call68 ⟨rfl, rfl, trivial⟩) (S_rsign hr_6 hi_23 hr_35 hr_37 hS hV) ?_)))
 clear hV hS
 rintro _ w ⟨r_62, r_63, hV, rfl, hr_64, hS⟩
 refine ⟨_, rfl, ?_⟩
 refine WL.ma rfl rfl (WL.nil ?_)
 exact WQ.there fun a ha => ⟨r_63, r_62, hV, hr_64, hS, ha.of_sub ⟨rfl, rfl, rfl, rfl, rfl, rfl, trivial⟩⟩
 intro hc_66
 replace hV := hV.2 (of_decide_eq_false hc_66)
 refine WC.skip ?_
 exact WQ.there fun a ha => ⟨xat_5, false, hV, hr_6, hS, ha.of_sub ⟨rfl, rfl, rfl, rfl, rfl, rfl, trivial⟩⟩
 clear hJ_39
 refine WC.sr (WL.mv rfl rfl (WL.run hS rfl rfl rfl (ex_nilCheck rfl) (WL.run hS rfl rfl rfl (ex_fieldAddr (o' := 2) Tryz.underlying67 rfl Tryz.sizeOf3 rfl rfl) (WL.run hS rfl rfl rfl (ex_load_box Tryz.isAgg3 rfl rfl) (WL.run hS rfl rfl rfl (ex_gtr rfl rfl) (WL.nx ?_))))))
 refine WC.cond rfl ?_ ?_
 intro hc_49
 replace hV := hV.1 (of_decide_eq_true hc_49)
 refine WC.region (WL.mv rfl rfl (WL.mv rfl rfl (WL.run hS rfl rfl rfl (ex_nilCheck rfl) (WL.run hS rfl rfl rfl (ex_fieldAddr (o' := 1) Tryz.underlying67 rfl Tryz.sizeOf3 rfl rfl) (WL.run hS rfl rfl rfl (ex_load_box Tryz.isAgg3 rfl rfl) (WL.mv rfl rfl ?_))))))
 obtain ⟨hl_41, hV⟩ := hV
 refine WL.run hS rfl rfl rfl (ex_s_len Tryz.underlying9 rfl) ?_
 obtain ⟨hi_43, hV⟩ := hV
 refine WL.run hS rfl rfl rfl (ex_sub rfl rfl hi_43) (WL.call rfl rfl rfl (enters0 (vs := [(pq b_2), i6 (6 : Int), i6 (xat_5 - (last_14.length : Int))]) Tryz.call28 ⟨rfl, rfl, rfl, trivial⟩) (S_rfail hr_6 hi_23 hr_10 hr_12 (show I64 (6 : Int) by unfold I64; omega) hi_43 hS hV) ?_)
 clear hV hS
 rintro _ w ⟨r_44, r_46, hV, rfl, hr_45, hr_47, hS⟩
 refine ⟨_, rfl, ?_⟩
 refine WL.nil ?_
 exact WQ.there fun a ha => ⟨r_44, r_46, hV, hr_45, hr_47, hS, ha.of_sub ⟨rfl, rfl, rfl, rfl, rfl, rfl, trivial⟩⟩
 intro hc_49
 replace hV := hV.2 (of_decide_eq_false hc_49)
 refine WC.skip ?_
 exact WQ.there fun a ha => ⟨e_9, bad_11, hV, hr_10, hr_12, hS, ha.of_sub ⟨rfl, rfl, rfl, rfl, rfl, rfl, trivial⟩⟩

theorem S_rvalue (m0 : Nat) : ∀ {w0 : World} {H : View} {L : Seg} {w : World} {b_2 : Nat} {s_4 : Str} {xat_5 : Int} {deep_7 : Int} {e_9 : Int} {bad_11 : Int} {heavy_13 : Bool} {Q : RV → Int → Int → Int → Int → Bool → Prop} (hr_6 : I64 xat_5) (hr_8 : I64 deep_7) (hr_10 : I64 e_9) (hr_12 : I64 bad_11) (hS : St w0 H ([(b_2, oc #[sv s_4, i6 xat_5, i6 deep_7, i6 e_9, i6 bad_11, .bool heavy_13] 67)] ++ L) w) (hV : V_rvalue m0 s_4 xat_5 deep_7 e_9 bad_11 heavy_13 Q),
 Calls Tryz.prog 26 #[(pq b_2)] w fun e w' => ∃ (r1 : RV) (r2 : Int) (r3 : Int) (r4 : Int) (r5 : Int) (r6 : Bool) (u1 : Value) (w1 : Value) (H' : View), Q r1 r2 r3 r4 r5 r6 ∧ e = .returned (.agg #[i6 r1.k, i6 r1.i, sv r1.t, u1, w1]) ∧ View.le H H' ∧ I64 r1.k ∧ I64 r1.i ∧ IsSl H' cR u1 r1.ks ∧ IsSl H' cR w1 r1.vs ∧ I64 r2 ∧ I64 r3 ∧ I64 r4 ∧ I64 r5 ∧ St w0 H' ([(b_2, oc #[sv s_4, i6 r2, i6 r3, i6 r4, i6 r5, .bool r6] 67)] ++ L) w' := by
 induction m0 with
 | zero => intro w0 H L w b_2 s_4 xat_5 deep_7 e_9 bad_11 heavy_13 Q hr_6 hr_8 hr_10 hr_12 hS hV; exact hV.elim
 | succ m0 ih =>
  intro w0 H L w b_2 s_4 xat_5 deep_7 e_9 bad_11 heavy_13 Q hr_6 hr_8 hr_10 hr_12 hS hV
  unfold V_rvalue at hV
  refine enter Tryz.func26 rfl Tryz.ntmps26 rfl (lk_args_cons (d := 0) (v := (pq b_2)) rfl (lk_args_nil _)) (WC.sr (WL.alloc (arr := #[i6 0, i6 0, sv ([] : Str), (.slice none 0 0), (.slice none 0 0)]) rfl Tryz.zeroValue32 rfl hS ?_))
  clear hS
  intro b_14 w hS
  refine WL.nx (WC.sr (WL.mv rfl rfl ?_))
  replace hS := hS.f2
  refine WL.call rfl rfl rfl (enters0 (vs := [(pq b_2)]) Tryz.call27 ⟨rfl, trivial⟩) (S_rskip hr_6 hr_8 hr_10 hr_12 hS hV) ?_
  clear hV hS
  rintro _ w ⟨r_18, hV, rfl, hr_19, hS⟩
  refine ⟨_, rfl, ?_⟩
  refine WL.nx (WC.seq (WC.sr (WL.mv rfl rfl (WL.run hS rfl rfl rfl (ex_nilCheck rfl) (WL.run hS rfl rfl rfl (ex_fieldAddr (o' := 3) Tryz.underlying67 rfl Tryz.sizeOf3 rfl rfl) (WL.run hS rfl rfl rfl (ex_load_box Tryz.isAgg3 rfl rfl) (WL.run hS rfl rfl rfl (ex_neq rfl rfl) ?_)))))))
  refine WL.nx ?_
  refine WC.cond rfl ?_ ?_
  intro hc_208
  replace hV := hV.1 (of_decide_eq_true hc_208)
  refine WC.sr (WL.run hS rfl rfl rfl (ex_build (vs := []) (zc := #[i6 0, i6 0, sv ([] : Str), (.slice none 0 0), (.slice none 0 0)]) (cs := #[i6 0, i6 0, sv ([] : Str), (.slice none 0 0), (.slice none 0 0)]) (places := #[(0, 1), (1, 1), (2, 1), (3, 1), (4, 1)]) Tryz.underlying32 Tryz.zeroValue32 (fun w => by simp [Tryz.sizeOf2, Tryz.sizeOf3, Tryz.sizeOf30, Tryz.sizeOf9]) rfl trivial rfl (by simp [Instr.fill, cells_int, cells_bool, cells_iface, cells_niliface, cells_slice, str_cells])) ?_)
  replace hS := hS.f2
  refine WL.store_box (pre := []) (old := [i6 0, i6 0, sv ([] : Str), (.slice none 0 0), (.slice none 0 0)]) (rst := []) (cs := [i6 0, i6 0, sv ([] : Str), (.slice none 0 0), (.slice none 0 0)]) (arr' := #[i6 0, i6 0, sv ([] : Str), (.slice none 0 0), (.slice none 0 0)]) Tryz.sizeOf32 rfl rfl rfl ⟨rfl, rfl, rfl, rfl, rfl, trivial⟩ rfl rfl rfl rfl hS ?_
  clear hS
  intro w hS
  refine WL.nx (WC.ret (WQ.pass nofun ?_))
  have hl_24 := load_own_agg (P := Tryz.prog) (cs := [i6 0, i6 0, sv ([] : Str), (.slice none 0 0), (.slice none 0 0)]) Tryz.isAgg32 Tryz.sizeOf32 hS rfl
  replace hS := hS.drop
  exact leavec1 (il) rfl rfl hl_24 (⟨(RV.mk 0 0 ([] : Str) ([] : List RV) ([] : List RV)), r_18, deep_7, e_9, bad_11, heavy_13, (.slice none 0 0), (.slice none 0 0), H, hV, rfl, (View.le.refl _), (show I64 0 by unfold I64; omega), (show I64 0 by unfold I64; omega), IsSl.nil, IsSl.nil, hr_19, hr_8, hr_10, hr_12, hS⟩)
  intro hc_208
  replace hV := hV.2 (of_decide_eq_false hc_208)
  refine WC.skip (WQ.next (WC.sr (WL.mv rfl rfl (WL.call rfl rfl rfl (enters0 (vs := [(pq b_2), sv ([123] : Str)]) Tryz.call68 ⟨rfl, rfl, trivial⟩) (S_rsign hr_19 hr_8 hr_10 hr_12 hS hV) ?_))))
  clear hV hS
  rintro _ w ⟨r_25, r_26, hV, rfl, hr_27, hS⟩
  refine ⟨_, rfl, ?_⟩
  refine WL.ma rfl rfl (WL.nx (WC.seq (WC.sr (WL.mv rfl rfl (WL.nx (WC.sub (m := [(0, (pq b_2)), (2, (pq b_14)), (25, .bool r_25)]) ⟨rfl, rfl, rfl, trivial⟩ ?_))))))
  refine WC.cond rfl ?_ ?_
  intro hc_207
  replace hV := hV.1 hc_207
  refine WC.sr (WL.mv rfl rfl (WL.call rfl rfl rfl (enters0 (vs := [(pq b_2), sv ([125] : Str), i6 (0 : Int), .bool false]) Tryz.call69 ⟨rfl, rfl, rfl, rfl, trivial⟩) (S_rvalues (@ih) hr_27 hr_8 hr_10 hr_12 (show I64 (0 : Int) by unfold I64; omega) hS hV) ?_))
  clear hV hS
  rintro _ w ⟨r_29, r_34, r_39, r_41, r_43, r_45, r_47, v_30, fp_31, v_35, fp_36, H_48, hV, rfl, le_49, h_32, h_37, hr_40, hr_42, hr_44, hr_46, hS⟩
  refine ⟨_, rfl, ?_⟩
  refine WL.mv rfl rfl (WL.run hS rfl rfl rfl (ex_extract rfl rfl) (WL.run hS rfl rfl rfl (ex_extract rfl rfl) (WL.ma rfl rfl (WL.ma rfl rfl (WL.nx ?_)))))
  replace hS := hS.f2.drop
  refine WC.sr (WL.mv rfl rfl ?_)
  obtain ⟨H_50, le_51, h_52, hS⟩ : ∃ K, View.le H_48 K ∧ IsSl K cR v_30 r_29 ∧ St w0 K ([(b_2, oc #[sv s_4, i6 r_39, i6 r_41, i6 r_43, i6 r_45, .bool r_47] 67)] ++ ([(b_14, Obj.cells #[i6 0, i6 0, sv ([] : Str), (.slice none 0 0), (.slice none 0 0)] 32 (0, 0))] ++ L)) w := ⟨_, hS.put_le, h_32.share hS.put_le, hS.freeze⟩
  refine WL.call rfl rfl rfl (enters0 (vs := [v_30]) Tryz.call36 ⟨rfl, trivial⟩) (S_rSetOf h_52 hS hV) ?_
  clear hV hS
  rintro _ w ⟨r_53, v_54, v_55, H_60, hV, rfl, le_61, hr_56, hr_57, h_58, h_59, hS⟩
  refine ⟨_, rfl, ?_⟩
  refine WL.alloc (arr := #[i6 0, i6 0, sv ([] : Str), (.slice none 0 0), (.slice none 0 0)]) rfl Tryz.zeroValue32 rfl hS ?_
  clear hS
  intro b_62 w hS
  refine WL.store_box (pre := []) (old := [i6 0, i6 0, sv ([] : Str), (.slice none 0 0), (.slice none 0 0)]) (rst := []) (cs := [i6 r_53.k, i6 r_53.i, sv r_53.t, v_54, v_55]) (arr' := #[i6 r_53.k, i6 r_53.i, sv r_53.t, v_54, v_55]) Tryz.sizeOf32 rfl rfl rfl ⟨rfl, rfl, rfl, (IsSl.one h_58), (IsSl.one h_59), trivial⟩ rfl rfl rfl rfl hS ?_
  clear hS
  intro w hS
  refine WL.nx (WC.sub (m := [(0, (pq b_2)), (2, (pq b_14)), (6, (pq b_62))]) ⟨rfl, rfl, rfl, trivial⟩ (WC.sr (WL.mv rfl rfl (WL.run hS rfl rfl rfl (ex_load_box_agg (cs := [i6 r_53.k, i6 r_53.i, sv r_53.t, v_54, v_55]) Tryz.isAgg32 Tryz.sizeOf32 rfl rfl rfl) ?_))))
  replace hS := hS.f2
  refine WL.call rfl rfl rfl (enters0 (vs := [(pq b_2), .agg #[i6 r_53.k, i6 r_53.i, sv r_53.t, v_54, v_55]]) Tryz.call70 ⟨rfl, rfl, trivial⟩) (S_rlight (v_14 := r_53) hr_40 hr_42 hr_44 hr_46 hr_56 hr_57 h_58 h_59 hS hV) ?_
  clear hV hS
  rintro _ w ⟨r_66, r_73, v_67, v_68, H_74, hV, rfl, le_75, hr_69, hr_70, h_71, h_72, hS⟩
  refine ⟨_, rfl, ?_⟩
  replace hS := hS.f3
  refine WL.store_box (pre := []) (old := [i6 0, i6 0, sv ([] : Str), (.slice none 0 0), (.slice none 0 0)]) (rst := []) (cs := [i6 r_66.k, i6 r_66.i, sv r_66.t, v_67, v_68]) (arr' := #[i6 r_66.k, i6 r_66.i, sv r_66.t, v_67, v_68]) Tryz.sizeOf32 rfl rfl rfl ⟨rfl, rfl, rfl, (IsSl.one h_71), (IsSl.one h_72), trivial⟩ rfl rfl rfl rfl hS ?_
  clear hS
  intro w hS
  refine WL.nx ?_
  replace hS := hS.f3.drop
  refine WC.ret (WQ.pass nofun ?_)
  have hl_76 := load_own_agg (P := Tryz.prog) (cs := [i6 r_66.k, i6 r_66.i, sv r_66.t, v_67, v_68]) Tryz.isAgg32 Tryz.sizeOf32 hS rfl
  replace hS := hS.drop
  exact leavec1 (il) rfl rfl hl_76 (⟨r_66, r_39, r_41, r_43, r_45, r_73, v_67, v_68, H_74, hV, rfl, (((((View.le.refl _).trans le_49).trans le_51).trans le_61).trans le_75), hr_69, hr_70, h_71, h_72, hr_40, hr_42, hr_44, hr_46, hS⟩)
  intro hc_207
  replace hV := hV.2 hc_207
  refine WC.skip (WQ.next (WC.sr (WL.mv rfl rfl (WL.call rfl rfl rfl (enters0 (vs := [(pq b_2), sv ([60, 60] : Str)]) Tryz.call68 ⟨rfl, rfl, trivial⟩) (S_rsign hr_27 hr_8 hr_10 hr_12 hS hV) ?_))))
  clear hV hS
  rintro _ w ⟨r_77, r_78, hV, rfl, hr_79, hS⟩
  refine ⟨_, rfl, ?_⟩
  refine WL.ma rfl rfl (WL.nx (WC.seq (WC.sr (WL.mv rfl rfl (WL.nx ?_)))))
  refine WC.cond rfl ?_ ?_
  intro hc_206
  replace hV := hV.1 hc_206
  refine WC.sr (WL.mv rfl rfl (WL.call rfl rfl rfl (enters0 (vs := [(pq b_2), sv ([62, 62] : Str), i6 (0 : Int), .bool false]) Tryz.call69 ⟨rfl, rfl, rfl, rfl, trivial⟩) (S_rvalues (@ih) hr_79 hr_8 hr_10 hr_12 (show I64 (0 : Int) by unfold I64; omega) hS hV) ?_))
  clear hV hS
  rintro _ w ⟨r_81, r_86, r_91, r_93, r_95, r_97, r_99, v_82, fp_83, v_87, fp_88, H_100, hV, rfl, le_101, h_84, h_89, hr_92, hr_94, hr_96, hr_98, hS⟩
  refine ⟨_, rfl, ?_⟩
  refine WL.mv rfl rfl (WL.run hS rfl rfl rfl (ex_extract rfl rfl) (WL.run hS rfl rfl rfl (ex_extract rfl rfl) (WL.ma rfl rfl (WL.ma rfl rfl (WL.nx (WC.sub (m := [(0, (pq b_2)), (2, (pq b_14)), (8, v_82)]) ⟨rfl, rfl, rfl, trivial⟩ ?_))))))
  replace hS := hS.f2.drop
  refine WC.sr (WL.mv rfl rfl ?_)
  obtain ⟨H_102, le_103, h_104, hS⟩ : ∃ K, View.le H_100 K ∧ IsSl K cR v_82 r_81 ∧ St w0 K ([(b_2, oc #[sv s_4, i6 r_91, i6 r_93, i6 r_95, i6 r_97, .bool r_99] 67)] ++ ([(b_14, Obj.cells #[i6 0, i6 0, sv ([] : Str), (.slice none 0 0), (.slice none 0 0)] 32 (0, 0))] ++ L)) w := ⟨_, hS.put_le, h_84.share hS.put_le, hS.freeze⟩
  refine WL.call rfl rfl rfl (enters0 (vs := [v_82]) Tryz.call37 ⟨rfl, trivial⟩) (S_rSeqOf h_104 hS hV) ?_
  clear hV hS
  rintro _ w ⟨r_105, v_106, v_107, H_112, hV, rfl, le_113, hr_108, hr_109, h_110, h_111, hS⟩
  refine ⟨_, rfl, ?_⟩
  refine WL.alloc (arr := #[i6 0, i6 0, sv ([] : Str), (.slice none 0 0), (.slice none 0 0)]) rfl Tryz.zeroValue32 rfl hS ?_
  clear hS
  intro b_114 w hS
  refine WL.store_box (pre := []) (old := [i6 0, i6 0, sv ([] : Str), (.slice none 0 0), (.slice none 0 0)]) (rst := []) (cs := [i6 r_105.k, i6 r_105.i, sv r_105.t, v_106, v_107]) (arr' := #[i6 r_105.k, i6 r_105.i, sv r_105.t, v_106, v_107]) Tryz.sizeOf32 rfl rfl rfl ⟨rfl, rfl, rfl, (IsSl.one h_110), (IsSl.one h_111), trivial⟩ rfl rfl rfl rfl hS ?_
  clear hS
  intro w hS
  refine WL.nx (WC.sr (WL.mv rfl rfl (WL.run hS rfl rfl rfl (ex_load_box_agg (cs := [i6 r_105.k, i6 r_105.i, sv r_105.t, v_106, v_107]) Tryz.isAgg32 Tryz.sizeOf32 rfl rfl rfl) ?_)))
  replace hS := hS.f2
  refine WL.call rfl rfl rfl (enters0 (vs := [(pq b_2), .agg #[i6 r_105.k, i6 r_105.i, sv r_105.t, v_106, v_107]]) Tryz.call70 ⟨rfl, rfl, trivial⟩) (S_rlight (v_14 := r_105) hr_92 hr_94 hr_96 hr_98 hr_108 hr_109 h_110 h_111 hS hV) ?_
  clear hV hS
  rintro _ w ⟨r_118, r_125, v_119, v_120, H_126, hV, rfl, le_127, hr_121, hr_122, h_123, h_124, hS⟩
  refine ⟨_, rfl, ?_⟩
  replace hS := hS.f3
  refine WL.store_box (pre := []) (old := [i6 0, i6 0, sv ([] : Str), (.slice none 0 0), (.slice none 0 0)]) (rst := []) (cs := [i6 r_118.k, i6 r_118.i, sv r_118.t, v_119, v_120]) (arr' := #[i6 r_118.k, i6 r_118.i, sv r_118.t, v_119, v_120]) Tryz.sizeOf32 rfl rfl rfl ⟨rfl, rfl, rfl, (IsSl.one h_123), (IsSl.one h_124), trivial⟩ rfl rfl rfl rfl hS ?_
  clear hS
  intro w hS
  refine WL.nx ?_
  replace hS := hS.f3.drop
  refine WC.ret (WQ.pass nofun ?_)
  have hl_128 := load_own_agg (P := Tryz.prog) (cs := [i6 r_118.k, i6 r_118.i, sv r_118.t, v_119, v_120]) Tryz.isAgg32 Tryz.sizeOf32 hS rfl
  replace hS := hS.drop
  exact leavec1 (il) rfl rfl hl_128 (⟨r_118, r_91, r_93, r_95, r_97, r_125, v_119, v_120, H_126, hV, rfl, (((((View.le.refl _).trans le_101).trans le_103).trans le_113).trans le_127), hr_121, hr_122, h_123, h_124, hr_92, hr_94, hr_96, hr_98, hS⟩)
  intro hc_206
  replace hV := hV.2 hc_206
  refine WC.skip (WQ.next (WC.sr (WL.mv rfl rfl (WL.call rfl rfl rfl (enters0 (vs := [(pq b_2), sv ([91] : Str)]) Tryz.call68 ⟨rfl, rfl, trivial⟩) (S_rsign hr_79 hr_8 hr_10 hr_12 hS hV) ?_))))
  clear hV hS
  rintro _ w ⟨r_129, r_130, hV, rfl, hr_131, hS⟩
  refine ⟨_, rfl, ?_⟩
  refine WL.ma rfl rfl (WL.nx (WC.seq (WC.sr (WL.mv rfl rfl (WL.nx ?_)))))
  refine WC.cond rfl ?_ ?_
  intro hc_205
  replace hV := hV.1 hc_205
  refine WC.sr (WL.mv rfl rfl (WL.call rfl rfl rfl (enters0 (vs := [(pq b_2), sv ([93] : Str), i6 (1 : Int), .bool true]) Tryz.call69 ⟨rfl, rfl, rfl, rfl, trivial⟩) (S_rvalues (@ih) hr_131 hr_8 hr_10 hr_12 (show I64 (1 : Int) by unfold I64; omega) hS hV) ?_))
  clear hV hS
  rintro _ w ⟨r_133, r_138, r_143, r_145, r_147, r_149, r_151, v_134, fp_135, v_139, fp_140, H_152, hV, rfl, le_153, h_136, h_141, hr_144, hr_146, hr_148, hr_150, hS⟩
  refine ⟨_, rfl, ?_⟩
  refine WL.mv rfl rfl (WL.run hS rfl rfl rfl (ex_extract rfl rfl) (WL.run hS rfl rfl rfl (ex_extract rfl rfl) (WL.ma rfl rfl (WL.ma rfl rfl (WL.nx (WC.sub (m := [(0, (pq b_2)), (2, (pq b_14)), (12, v_134), (13, v_139)]) ⟨rfl, rfl, rfl, rfl, trivial⟩ (WC.seq ?_)))))))
  refine WC.sr (WL.mv rfl rfl (WL.run hS rfl rfl rfl (ex_nilCheck rfl) (WL.run hS rfl rfl rfl (ex_fieldAddr (o' := 3) Tryz.underlying67 rfl Tryz.sizeOf3 rfl rfl) ?_)))
  replace hS := hS.f3
  refine WL.run hS rfl rfl rfl (ex_load_box Tryz.isAgg3 rfl rfl) (WL.run hS rfl rfl rfl (ex_neq rfl rfl) (WL.nx ?_))
  refine WC.cond rfl ?_ ?_
  intro hc_188
  replace hV := hV.1 (of_decide_eq_true hc_188)
  refine WC.sr (WL.run hS rfl rfl rfl (ex_build (vs := []) (zc := #[i6 0, i6 0, sv ([] : Str), (.slice none 0 0), (.slice none 0 0)]) (cs := #[i6 0, i6 0, sv ([] : Str), (.slice none 0 0), (.slice none 0 0)]) (places := #[(0, 1), (1, 1), (2, 1), (3, 1), (4, 1)]) Tryz.underlying32 Tryz.zeroValue32 (fun w => by simp [Tryz.sizeOf2, Tryz.sizeOf3, Tryz.sizeOf30, Tryz.sizeOf9]) rfl trivial rfl (by simp [Instr.fill, cells_int, cells_bool, cells_iface, cells_niliface, cells_slice, str_cells])) ?_)
  replace hS := hS.f4
  refine WL.store_box (pre := []) (old := [i6 0, i6 0, sv ([] : Str), (.slice none 0 0), (.slice none 0 0)]) (rst := []) (cs := [i6 0, i6 0, sv ([] : Str), (.slice none 0 0), (.slice none 0 0)]) (arr' := #[i6 0, i6 0, sv ([] : Str), (.slice none 0 0), (.slice none 0 0)]) Tryz.sizeOf32 rfl rfl rfl ⟨rfl, rfl, rfl, rfl, rfl, trivial⟩ rfl rfl rfl rfl hS ?_
  clear hS
  intro w hS
  refine WL.nx ?_
  replace hS := hS.f3.drop
  replace hS := hS.f3.drop
  refine WC.ret (WQ.pass nofun (WQ.pass nofun ?_))
  have hl_157 := load_own_agg (P := Tryz.prog) (cs := [i6 0, i6 0, sv ([] : Str), (.slice none 0 0), (.slice none 0 0)]) Tryz.isAgg32 Tryz.sizeOf32 hS rfl
  replace hS := hS.drop
  exact leavec1 (il) rfl rfl hl_157 (⟨(RV.mk 0 0 ([] : Str) ([] : List RV) ([] : List RV)), r_143, r_145, r_147, r_149, r_151, (.slice none 0 0), (.slice none 0 0), H_152, hV, rfl, ((View.le.refl _).trans le_153), (show I64 0 by unfold I64; omega), (show I64 0 by unfold I64; omega), IsSl.nil, IsSl.nil, hr_144, hr_146, hr_148, hr_150, hS⟩)
  intro hc_188
  replace hV := hV.2 (of_decide_eq_false hc_188)
  refine WC.skip (WQ.next (WC.sr (WL.mv rfl rfl (WL.mv rfl rfl ?_))))
  replace hS := hS.f2
  obtain ⟨H_158, le_159, h_160, hS⟩ : ∃ K, View.le H_152 K ∧ IsSl K cR v_134 r_133 ∧ St w0 K ([(b_2, oc #[sv s_4, i6 r_143, i6 r_145, i6 r_147, i6 r_149, .bool r_151] 67)] ++ (fp_140 ++ ([(b_14, Obj.cells #[i6 0, i6 0, sv ([] : Str), (.slice none 0 0), (.slice none 0 0)] 32 (0, 0))] ++ L))) w := ⟨_, hS.put_le, h_136.share hS.put_le, hS.freeze⟩
  replace hS := hS.f2
  obtain ⟨H_161, le_162, h_163, hS⟩ : ∃ K, View.le H_158 K ∧ IsSl K cR v_139 r_138 ∧ St w0 K ([(b_2, oc #[sv s_4, i6 r_143, i6 r_145, i6 r_147, i6 r_149, .bool r_151] 67)] ++ ([(b_14, Obj.cells #[i6 0, i6 0, sv ([] : Str), (.slice none 0 0), (.slice none 0 0)] 32 (0, 0))] ++ L)) w := ⟨_, hS.put_le, (h_141.mono le_159).share hS.put_le, hS.freeze⟩
  refine WL.call rfl rfl rfl (enters0 (vs := [v_134, v_139]) Tryz.call71 ⟨rfl, rfl, trivial⟩) (S_rFunOf (h_160.mono le_162) h_163 hS hV) ?_
  clear hV hS
  rintro _ w ⟨r_164, v_165, v_166, H_171, hV, rfl, le_172, hr_167, hr_168, h_169, h_170, hS⟩
  refine ⟨_, rfl, ?_⟩
  refine WL.alloc (arr := #[i6 0, i6 0, sv ([] : Str), (.slice none 0 0), (.slice none 0 0)]) rfl Tryz.zeroValue32 rfl hS ?_
  clear hS
  intro b_173 w hS
  refine WL.store_box (pre := []) (old := [i6 0, i6 0, sv ([] : Str), (.slice none 0 0), (.slice none 0 0)]) (rst := []) (cs := [i6 r_164.k, i6 r_164.i, sv r_164.t, v_165, v_166]) (arr' := #[i6 r_164.k, i6 r_164.i, sv r_164.t, v_165, v_166]) Tryz.sizeOf32 rfl rfl rfl ⟨rfl, rfl, rfl, (IsSl.one h_169), (IsSl.one h_170), trivial⟩ rfl rfl rfl rfl hS ?_
  clear hS
  intro w hS
  refine WL.nx (WC.sub (m := [(0, (pq b_2)), (2, (pq b_14)), (14, (pq b_173))]) ⟨rfl, rfl, rfl, trivial⟩ (WC.sr (WL.mv rfl rfl (WL.run hS rfl rfl rfl (ex_load_box_agg (cs := [i6 r_164.k, i6 r_164.i, sv r_164.t, v_165, v_166]) Tryz.isAgg32 Tryz.sizeOf32 rfl rfl rfl) ?_))))
  replace hS := hS.f2
  refine WL.call rfl rfl rfl (enters0 (vs := [(pq b_2), .agg #[i6 r_164.k, i6 r_164.i, sv r_164.t, v_165, v_166]]) Tryz.call70 ⟨rfl, rfl, trivial⟩) (S_rlight (v_14 := r_164) hr_144 hr_146 hr_148 hr_150 hr_167 hr_168 h_169 h_170 hS hV) ?_
  clear hV hS
  rintro _ w ⟨r_177, r_184, v_178, v_179, H_185, hV, rfl, le_186, hr_180, hr_181, h_182, h_183, hS⟩
  refine ⟨_, rfl, ?_⟩
  replace hS := hS.f3
  refine WL.store_box (pre := []) (old := [i6 0, i6 0, sv ([] : Str), (.slice none 0 0), (.slice none 0 0)]) (rst := []) (cs := [i6 r_177.k, i6 r_177.i, sv r_177.t, v_178, v_179]) (arr' := #[i6 r_177.k, i6 r_177.i, sv r_177.t, v_178, v_179]) Tryz.sizeOf32 rfl rfl rfl ⟨rfl, rfl, rfl, (IsSl.one h_182), (IsSl.one h_183), trivial⟩ rfl rfl rfl rfl hS ?_
  clear hS
  intro w hS
  refine WL.nx ?_
  replace hS := hS.f3.drop
  refine WC.ret (WQ.pass nofun ?_)
  have hl_187 := load_own_agg (P := Tryz.prog) (cs := [i6 r_177.k, i6 r_177.i, sv r_177.t, v_178, v_179]) Tryz.isAgg32 Tryz.sizeOf32 hS rfl
  replace hS := hS.drop
  exact leavec1 (il) rfl rfl hl_187 (⟨r_177, r_143, r_145, r_147, r_149, r_184, v_178, v_179, H_185, hV, rfl, ((((((View.le.refl _).trans le_153).trans le_159).trans le_162).trans le_172).trans le_186), hr_180, hr_181, h_182, h_183, hr_144, hr_146, hr_148, hr_150, hS⟩)
  intro hc_205
  replace hV := hV.2 hc_205
  refine WC.skip (WQ.next (WC.sr (WL.mv rfl rfl (WL.call rfl rfl rfl (enters0 (vs := [(pq b_2)]) Tryz.call72 ⟨rfl, trivial⟩) (S_rsingle hr_131 hr_8 hr_10 hr_12 hS hV) ?_))))
  clear hV hS
  rintro _ w ⟨r_189, r_196, r_198, r_200, v_190, v_191, H_202, hV, rfl, le_203, hr_192, hr_193, h_194, h_195, hr_197, hr_199, hr_201, hS⟩
  refine ⟨_, rfl, ?_⟩
  replace hS := hS.f2
  refine WL.store_box (pre := []) (old := [i6 0, i6 0, sv ([] : Str), (.slice none 0 0), (.slice none 0 0)]) (rst := []) (cs := [i6 r_189.k, i6 r_189.i, sv r_189.t, v_190, v_191]) (arr' := #[i6 r_189.k, i6 r_189.i, sv r_189.t, v_190, v_191]) Tryz.sizeOf32 rfl rfl rfl ⟨rfl, rfl, rfl, (IsSl.one h_194), (IsSl.one h_195), trivial⟩ rfl rfl rfl rfl hS ?_
  clear hS
  intro w hS
  refine WL.nx (WC.sub (m := [(2, (pq b_14))]) ⟨rfl, trivial⟩ (WC.ret ?_))
  have hl_204 := load_own_agg (P := Tryz.prog) (cs := [i6 r_189.k, i6 r_189.i, sv r_189.t, v_190, v_191]) Tryz.isAgg32 Tryz.sizeOf32 hS rfl
  replace hS := hS.drop
  exact leavec1 (il) rfl rfl hl_204 (⟨r_189, r_196, deep_7, r_198, r_200, heavy_13, v_190, v_191, H_202, hV, rfl, ((View.le.refl _).trans le_203), hr_192, hr_193, h_194, h_195, hr_197, hr_8, hr_199, hr_201, hS⟩)

end Go.Proofs.YtlhkfkecoekoeaaGreatDoor
