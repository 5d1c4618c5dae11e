/- For each function: called, it does its work where its condition is so. Printed by program. -/
import Derived.Test.YtlhkfkecoekoeaaGreatDoorFacts
import Derived.Test.YtlhkfkecoekoeaaGreatDoorConds
import Derived.Test.YtlhkfkecoekoeaaGreatDoorShv
import Derived.Test.YtlhkfkecoekoeaaGreatDoorWalks2
set_option linter.unusedVariables false
set_option linter.unusedSimpArgs false
set_option maxRecDepth 100000
set_option maxHeartbeats 1000000
namespace Go.Proofs.YtlhkfkecoekoeaaGreatDoor
open Go.Vc
theorem S_inWord {w0 : World} {H : View} {L : Seg} {w : World} {c_1 : Int} {Q : Bool → Prop} (hr_2 : IntKind.u8.has c_1) (hS : St w0 H (L) w) (hV : V_inWord c_1 Q) :
 Calls Tryz.prog 193 #[.int .u8 c_1] w fun e w' => ∃ (r1 : Bool), Q r1 ∧ e = .returned (.bool r1) ∧ St w0 H (L) w' := by
 unfold V_inWord at hV
 refine enter Tryz.func193 rfl Tryz.ntmps193 rfl (lk_args_cons (d := 0) (v := .int .u8 c_1) rfl (lk_args_nil _)) ?_
 refine WC.sr ?_
 refine WL.ma rfl rfl ?_
 refine WL.nx ?_
 refine WC.seq ?_
 refine WC.via (m := [(2, .bool (decide ((((((97 : Int) ≤ c_1) ∧ (c_1 ≤ (122 : Int))) ∨ (((65 : Int) ≤ c_1) ∧ (c_1 ≤ (90 : Int)))) ∨ (((48 : Int) ≤ c_1) ∧ (c_1 ≤ (57 : Int)))) ∨ (c_1 = (95 : Int)))))]) ?_ ?_
 refine WC.region ?_
 refine WL.mv rfl rfl ?_
 refine WL.run hS rfl rfl rfl (ex_geq rfl rfl) ?_
 refine WL.mv rfl rfl ?_
 rcases Bool.eq_false_or_eq_true (decide ((97 : Int) ≤ c_1)) with hg_3 | hg_3
 refine WL.unguard rfl rfl hg_3 ?_
 refine WL.mv rfl rfl ?_
 refine WL.unguard rfl rfl hg_3 ?_
 refine WL.run hS rfl rfl rfl (ex_leq rfl rfl) ?_
 refine WL.run hS rfl rfl rfl (ex_pick_t rfl hg_3 rfl) ?_
 refine WL.sub (m := [(0, .int .u8 c_1), (3, .int .u8 c_1), (4, .bool (decide ((97 : Int) ≤ c_1))), (5, .bool (decide ((97 : Int) ≤ c_1))), (6, .int .u8 c_1), (7, .bool (decide (c_1 ≤ (122 : Int)))), (8, .bool (decide (((97 : Int) ≤ c_1) ∧ (c_1 ≤ (122 : Int)))))]) ⟨rfl, rfl, rfl, rfl, rfl, rfl, congrArg (fun b => some (Value.bool b)) (and_t hg_3 : decide (c_1 ≤ (122 : Int)) = decide (((97 : Int) ≤ c_1) ∧ (c_1 ≤ (122 : Int)))), trivial⟩ ?_
 refine WL.mv rfl rfl ?_
 rcases Bool.eq_false_or_eq_true (decide (((97 : Int) ≤ c_1) ∧ (c_1 ≤ (122 : Int)))) with hg_4 | hg_4
 refine WL.skip_g rfl rfl rfl hg_4 rfl rfl ?_
 refine WL.skip_g rfl rfl rfl hg_4 rfl rfl ?_
 refine WL.skip_g rfl rfl rfl hg_4 rfl rfl ?_
 refine WL.skip_u rfl rfl rfl rfl rfl ?_
 refine WL.skip_u rfl rfl rfl rfl rfl ?_
 refine WL.skip_g rfl rfl rfl hg_4 rfl rfl ?_
 refine WL.run hS rfl rfl rfl (ex_pick_t rfl hg_4 rfl) ?_
 refine WL.sub (m := [(0, .int .u8 c_1), (3, .int .u8 c_1), (4, .bool (decide ((97 : Int) ≤ c_1))), (5, .bool (decide ((97 : Int) ≤ c_1))), (6, .int .u8 c_1), (7, .bool (decide (c_1 ≤ (122 : Int)))), (8, .bool (decide (((97 : Int) ≤ c_1) ∧ (c_1 ≤ (122 : Int))))), (9, .bool (decide (((97 : Int) ≤ c_1) ∧ (c_1 ≤ (122 : Int))))), (10, undef), (11, undef), (12, undef), (13, undef), (14, undef), (15, undef), (16, .bool (decide ((((97 : Int) ≤ c_1) ∧ (c_1 ≤ (122 : Int))) ∨ (((65 : Int) ≤ c_1) ∧ (c_1 ≤ (90 : Int))))))]) ⟨rfl, rfl, rfl, rfl, rfl, rfl, rfl, rfl, rfl, rfl, rfl, rfl, rfl, rfl, congrArg (fun b => some (Value.bool b)) (or_t hg_4 : true = decide ((((97 : Int) ≤ c_1) ∧ (c_1 ≤ (122 : Int))) ∨ (((65 : Int) ≤ c_1) ∧ (c_1 ≤ (90 : Int))))), trivial⟩ ?_
 refine WL.mv rfl rfl ?_
 refine WL.skip_g rfl rfl rfl (or_t hg_4).symm rfl rfl ?_
 refine WL.skip_g rfl rfl rfl (or_t hg_4).symm rfl rfl ?_
 refine WL.skip_g rfl rfl rfl (or_t hg_4).symm rfl rfl ?_
 refine WL.skip_u rfl rfl rfl rfl rfl ?_
 refine WL.skip_u rfl rfl rfl rfl rfl ?_
 refine WL.skip_g rfl rfl rfl (or_t hg_4).symm rfl rfl ?_
 refine WL.run hS rfl rfl rfl (ex_pick_t rfl (or_t hg_4).symm rfl) ?_
 refine WL.sub (m := [(0, .int .u8 c_1), (3, .int .u8 c_1), (4, .bool (decide ((97 : Int) ≤ c_1))), (5, .bool (decide ((97 : Int) ≤ c_1))), (6, .int .u8 c_1), (7, .bool (decide (c_1 ≤ (122 : Int)))), (8, .bool (decide (((97 : Int) ≤ c_1) ∧ (c_1 ≤ (122 : Int))))), (9, .bool (decide (((97 : Int) ≤ c_1) ∧ (c_1 ≤ (122 : Int))))), (10, undef), (11, undef), (12, undef), (13, undef), (14, undef), (15, undef), (16, .bool (decide ((((97 : Int) ≤ c_1) ∧ (c_1 ≤ (122 : Int))) ∨ (((65 : Int) ≤ c_1) ∧ (c_1 ≤ (90 : Int)))))), (17, .bool (decide ((((97 : Int) ≤ c_1) ∧ (c_1 ≤ (122 : Int))) ∨ (((65 : Int) ≤ c_1) ∧ (c_1 ≤ (90 : Int)))))), (18, undef), (19, undef), (20, undef), (21, undef), (22, undef), (23, undef), (24, .bool (decide (((((97 : Int) ≤ c_1) ∧ (c_1 ≤ (122 : Int))) ∨ (((65 : Int) ≤ c_1) ∧ (c_1 ≤ (90 : Int)))) ∨ (((48 : Int) ≤ c_1) ∧ (c_1 ≤ (57 : Int))))))]) ⟨rfl, rfl, rfl, rfl, rfl, rfl, rfl, rfl, rfl, rfl, rfl, rfl, rfl, rfl, rfl, rfl, rfl, rfl, rfl, rfl, rfl, rfl, congrArg (fun b => some (Value.bool b)) (or_t (or_t hg_4).symm : true = decide (((((97 : Int) ≤ c_1) ∧ (c_1 ≤ (122 : Int))) ∨ (((65 : Int) ≤ c_1) ∧ (c_1 ≤ (90 : Int)))) ∨ (((48 : Int) ≤ c_1) ∧ (c_1 ≤ (57 : Int))))), trivial⟩ ?_
 refine WL.mv rfl rfl ?_
 refine WL.skip_g rfl rfl rfl (or_t (or_t hg_4).symm).symm rfl rfl ?_
 refine WL.skip_g rfl rfl rfl (or_t (or_t hg_4).symm).symm rfl rfl ?_
 refine WL.run hS rfl rfl rfl (ex_pick_t rfl (or_t (or_t hg_4).symm).symm rfl) ?_
 refine WL.sub (m := [(0, .int .u8 c_1), (3, .int .u8 c_1), (4, .bool (decide ((97 : Int) ≤ c_1))), (5, .bool (decide ((97 : Int) ≤ c_1))), (6, .int .u8 c_1), (7, .bool (decide (c_1 ≤ (122 : Int)))), (8, .bool (decide (((97 : Int) ≤ c_1) ∧ (c_1 ≤ (122 : Int))))), (9, .bool (decide (((97 : Int) ≤ c_1) ∧ (c_1 ≤ (122 : Int))))), (10, undef), (11, undef), (12, undef), (13, undef), (14, undef), (15, undef), (16, .bool (decide ((((97 : Int) ≤ c_1) ∧ (c_1 ≤ (122 : Int))) ∨ (((65 : Int) ≤ c_1) ∧ (c_1 ≤ (90 : Int)))))), (17, .bool (decide ((((97 : Int) ≤ c_1) ∧ (c_1 ≤ (122 : Int))) ∨ (((65 : Int) ≤ c_1) ∧ (c_1 ≤ (90 : Int)))))), (18, undef), (19, undef), (20, undef), (21, undef), (22, undef), (23, undef), (24, .bool (decide (((((97 : Int) ≤ c_1) ∧ (c_1 ≤ (122 : Int))) ∨ (((65 : Int) ≤ c_1) ∧ (c_1 ≤ (90 : Int)))) ∨ (((48 : Int) ≤ c_1) ∧ (c_1 ≤ (57 : Int)))))), (25, .bool (decide (((((97 : Int) ≤ c_1) ∧ (c_1 ≤ (122 : Int))) ∨ (((65 : Int) ≤ c_1) ∧ (c_1 ≤ (90 : Int)))) ∨ (((48 : Int) ≤ c_1) ∧ (c_1 ≤ (57 : Int)))))), (26, undef), (27, undef), (28, .bool (decide ((((((97 : Int) ≤ c_1) ∧ (c_1 ≤ (122 : Int))) ∨ (((65 : Int) ≤ c_1) ∧ (c_1 ≤ (90 : Int)))) ∨ (((48 : Int) ≤ c_1) ∧ (c_1 ≤ (57 : Int)))) ∨ (c_1 = (95 : Int)))))]) ⟨rfl, rfl, rfl, rfl, rfl, rfl, rfl, rfl, rfl, rfl, rfl, rfl, rfl, rfl, rfl, rfl, rfl, rfl, rfl, rfl, rfl, rfl, rfl, rfl, rfl, rfl, congrArg (fun b => some (Value.bool b)) (or_t (or_t (or_t hg_4).symm).symm : true = decide ((((((97 : Int) ≤ c_1) ∧ (c_1 ≤ (122 : Int))) ∨ (((65 : Int) ≤ c_1) ∧ (c_1 ≤ (90 : Int)))) ∨ (((48 : Int) ≤ c_1) ∧ (c_1 ≤ (57 : Int)))) ∨ (c_1 = (95 : Int)))), trivial⟩ ?_
 refine WL.ma rfl rfl ?_
 exact WL.nil (At.of ⟨rfl, trivial⟩)
 refine WL.unguard rfl rfl hg_4 ?_
 refine WL.mv rfl rfl ?_
 refine WL.unguard rfl rfl hg_4 ?_
 refine WL.run hS rfl rfl rfl (ex_geq rfl rfl) ?_
 refine WL.unguard rfl rfl hg_4 ?_
 refine WL.mv rfl rfl ?_
 rcases Bool.eq_false_or_eq_true (decide ((65 : Int) ≤ c_1)) with hg_5 | hg_5
 refine WL.unguard rfl rfl hg_5 ?_
 refine WL.mv rfl rfl ?_
 refine WL.unguard rfl rfl hg_5 ?_
 refine WL.run hS rfl rfl rfl (ex_leq rfl rfl) ?_
 refine WL.unguard rfl rfl hg_4 ?_
 refine WL.run hS rfl rfl rfl (ex_pick_t rfl hg_5 rfl) ?_
 refine WL.sub (m := [(0, .int .u8 c_1), (3, .int .u8 c_1), (4, .bool (decide ((97 : Int) ≤ c_1))), (5, .bool (decide ((97 : Int) ≤ c_1))), (6, .int .u8 c_1), (7, .bool (decide (c_1 ≤ (122 : Int)))), (8, .bool (decide (((97 : Int) ≤ c_1) ∧ (c_1 ≤ (122 : Int))))), (9, .bool (decide (((97 : Int) ≤ c_1) ∧ (c_1 ≤ (122 : Int))))), (10, .int .u8 c_1), (11, .bool (decide ((65 : Int) ≤ c_1))), (12, .bool (decide ((65 : Int) ≤ c_1))), (13, .int .u8 c_1), (14, .bool (decide (c_1 ≤ (90 : Int)))), (15, .bool (decide (((65 : Int) ≤ c_1) ∧ (c_1 ≤ (90 : Int)))))]) ⟨rfl, rfl, rfl, rfl, rfl, rfl, rfl, rfl, rfl, rfl, rfl, rfl, rfl, congrArg (fun b => some (Value.bool b)) (and_t hg_5 : decide (c_1 ≤ (90 : Int)) = decide (((65 : Int) ≤ c_1) ∧ (c_1 ≤ (90 : Int)))), trivial⟩ ?_
 refine WL.run hS rfl rfl rfl (ex_pick_f rfl hg_4 rfl) ?_
 refine WL.sub (m := [(0, .int .u8 c_1), (3, .int .u8 c_1), (4, .bool (decide ((97 : Int) ≤ c_1))), (5, .bool (decide ((97 : Int) ≤ c_1))), (6, .int .u8 c_1), (7, .bool (decide (c_1 ≤ (122 : Int)))), (8, .bool (decide (((97 : Int) ≤ c_1) ∧ (c_1 ≤ (122 : Int))))), (9, .bool (decide (((97 : Int) ≤ c_1) ∧ (c_1 ≤ (122 : Int))))), (10, .int .u8 c_1), (11, .bool (decide ((65 : Int) ≤ c_1))), (12, .bool (decide ((65 : Int) ≤ c_1))), (13, .int .u8 c_1), (14, .bool (decide (c_1 ≤ (90 : Int)))), (15, .bool (decide (((65 : Int) ≤ c_1) ∧ (c_1 ≤ (90 : Int))))), (16, .bool (decide ((((97 : Int) ≤ c_1) ∧ (c_1 ≤ (122 : Int))) ∨ (((65 : Int) ≤ c_1) ∧ (c_1 ≤ (90 : Int))))))]) ⟨rfl, rfl, rfl, rfl, rfl, rfl, rfl, rfl, rfl, rfl, rfl, rfl, rfl, rfl, congrArg (fun b => some (Value.bool b)) (or_f hg_4 : decide (((65 : Int) ≤ c_1) ∧ (c_1 ≤ (90 : Int))) = decide ((((97 : Int) ≤ c_1) ∧ (c_1 ≤ (122 : Int))) ∨ (((65 : Int) ≤ c_1) ∧ (c_1 ≤ (90 : Int))))), trivial⟩ ?_
 refine WL.mv rfl rfl ?_
 rcases Bool.eq_false_or_eq_true (decide ((((97 : Int) ≤ c_1) ∧ (c_1 ≤ (122 : Int))) ∨ (((65 : Int) ≤ c_1) ∧ (c_1 ≤ (90 : Int))))) with hg_6 | hg_6
 refine WL.skip_g rfl rfl rfl hg_6 rfl rfl ?_
 refine WL.skip_g rfl rfl rfl hg_6 rfl rfl ?_
 refine WL.skip_g rfl rfl rfl hg_6 rfl rfl ?_
 refine WL.skip_u rfl rfl rfl rfl rfl ?_
 refine WL.skip_u rfl rfl rfl rfl rfl ?_
 refine WL.skip_g rfl rfl rfl hg_6 rfl rfl ?_
 refine WL.run hS rfl rfl rfl (ex_pick_t rfl hg_6 rfl) ?_
 refine WL.sub (m := [(0, .int .u8 c_1), (3, .int .u8 c_1), (4, .bool (decide ((97 : Int) ≤ c_1))), (5, .bool (decide ((97 : Int) ≤ c_1))), (6, .int .u8 c_1), (7, .bool (decide (c_1 ≤ (122 : Int)))), (8, .bool (decide (((97 : Int) ≤ c_1) ∧ (c_1 ≤ (122 : Int))))), (9, .bool (decide (((97 : Int) ≤ c_1) ∧ (c_1 ≤ (122 : Int))))), (10, .int .u8 c_1), (11, .bool (decide ((65 : Int) ≤ c_1))), (12, .bool (decide ((65 : Int) ≤ c_1))), (13, .int .u8 c_1), (14, .bool (decide (c_1 ≤ (90 : Int)))), (15, .bool (decide (((65 : Int) ≤ c_1) ∧ (c_1 ≤ (90 : Int))))), (16, .bool (decide ((((97 : Int) ≤ c_1) ∧ (c_1 ≤ (122 : Int))) ∨ (((65 : Int) ≤ c_1) ∧ (c_1 ≤ (90 : Int)))))), (17, .bool (decide ((((97 : Int) ≤ c_1) ∧ (c_1 ≤ (122 : Int))) ∨ (((65 : Int) ≤ c_1) ∧ (c_1 ≤ (90 : Int)))))), (18, undef), (19, undef), (20, undef), (21, undef), (22, undef), (23, undef), (24, .bool (decide (((((97 : Int) ≤ c_1) ∧ (c_1 ≤ (122 : Int))) ∨ (((65 : Int) ≤ c_1) ∧ (c_1 ≤ (90 : Int)))) ∨ (((48 : Int) ≤ c_1) ∧ (c_1 ≤ (57 : Int))))))]) ⟨rfl, rfl, rfl, rfl, rfl, rfl, rfl, rfl, rfl, rfl, rfl, rfl, rfl, rfl, rfl, rfl, rfl, rfl, rfl, rfl, rfl, rfl, congrArg (fun b => some (Value.bool b)) (or_t hg_6 : true = decide (((((97 : Int) ≤ c_1) ∧ (c_1 ≤ (122 : Int))) ∨ (((65 : Int) ≤ c_1) ∧ (c_1 ≤ (90 : Int)))) ∨ (((48 : Int) ≤ c_1) ∧ (c_1 ≤ (57 : Int))))), trivial⟩ ?_
 refine WL.mv rfl rfl ?_
 refine WL.skip_g rfl rfl rfl (or_t hg_6).symm rfl rfl ?_
 refine WL.skip_g rfl rfl rfl (or_t hg_6).symm rfl rfl ?_
 refine WL.run hS rfl rfl rfl (ex_pick_t rfl (or_t hg_6).symm rfl) ?_
 refine WL.sub (m := [(0, .int .u8 c_1), (3, .int .u8 c_1), (4, .bool (decide ((97 : Int) ≤ c_1))), (5, .bool (decide ((97 : Int) ≤ c_1))), (6, .int .u8 c_1), (7, .bool (decide (c_1 ≤ (122 : Int)))), (8, .bool (decide (((97 : Int) ≤ c_1) ∧ (c_1 ≤ (122 : Int))))), (9, .bool (decide (((97 : Int) ≤ c_1) ∧ (c_1 ≤ (122 : Int))))), (10, .int .u8 c_1), (11, .bool (decide ((65 : Int) ≤ c_1))), (12, .bool (decide ((65 : Int) ≤ c_1))), (13, .int .u8 c_1), (14, .bool (decide (c_1 ≤ (90 : Int)))), (15, .bool (decide (((65 : Int) ≤ c_1) ∧ (c_1 ≤ (90 : Int))))), (16, .bool (decide ((((97 : Int) ≤ c_1) ∧ (c_1 ≤ (122 : Int))) ∨ (((65 : Int) ≤ c_1) ∧ (c_1 ≤ (90 : Int)))))), (17, .bool (decide ((((97 : Int) ≤ c_1) ∧ (c_1 ≤ (122 : Int))) ∨ (((65 : Int) ≤ c_1) ∧ (c_1 ≤ (90 : Int)))))), (18, undef), (19, undef), (20, undef), (21, undef), (22, undef), (23, undef), (24, .bool (decide (((((97 : Int) ≤ c_1) ∧ (c_1 ≤ (122 : Int))) ∨ (((65 : Int) ≤ c_1) ∧ (c_1 ≤ (90 : Int)))) ∨ (((48 : Int) ≤ c_1) ∧ (c_1 ≤ (57 : Int)))))), (25, .bool (decide (((((97 : Int) ≤ c_1) ∧ (c_1 ≤ (122 : Int))) ∨ (((65 : Int) ≤ c_1) ∧ (c_1 ≤ (90 : Int)))) ∨ (((48 : Int) ≤ c_1) ∧ (c_1 ≤ (57 : Int)))))), (26, undef), (27, undef), (28, .bool (decide ((((((97 : Int) ≤ c_1) ∧ (c_1 ≤ (122 : Int))) ∨ (((65 : Int) ≤ c_1) ∧ (c_1 ≤ (90 : Int)))) ∨ (((48 : Int) ≤ c_1) ∧ (c_1 ≤ (57 : Int)))) ∨ (c_1 = (95 : Int)))))]) ⟨rfl, rfl, rfl, rfl, rfl, rfl, rfl, rfl, rfl, rfl, rfl, rfl, rfl, rfl, rfl, rfl, rfl, rfl, rfl, rfl, rfl, rfl, rfl, rfl, rfl, rfl, congrArg (fun b => some (Value.bool b)) (or_t (or_t hg_6).symm : true = decide ((((((97 : Int) ≤ c_1) ∧ (c_1 ≤ (122 : Int))) ∨ (((65 : Int) ≤ c_1) ∧ (c_1 ≤ (90 : Int)))) ∨ (((48 : Int) ≤ c_1) ∧ (c_1 ≤ (57 : Int)))) ∨ (c_1 = (95 : Int)))), trivial⟩ ?_
 refine WL.ma rfl rfl ?_
 exact WL.nil (At.of ⟨rfl, trivial⟩)
 refine WL.unguard rfl rfl hg_6 ?_
 refine WL.mv rfl rfl ?_
 refine WL.unguard rfl rfl hg_6 ?_
 refine WL.run hS rfl rfl rfl (ex_geq rfl rfl) ?_
 refine WL.unguard rfl rfl hg_6 ?_
 refine WL.mv rfl rfl ?_
 rcases Bool.eq_false_or_eq_true (decide ((48 : Int) ≤ c_1)) with hg_7 | hg_7
 refine WL.unguard rfl rfl hg_7 ?_
 refine WL.mv rfl rfl ?_
 refine WL.unguard rfl rfl hg_7 ?_
 refine WL.run hS rfl rfl rfl (ex_leq rfl rfl) ?_
 refine WL.unguard rfl rfl hg_6 ?_
 refine WL.run hS rfl rfl rfl (ex_pick_t rfl hg_7 rfl) ?_
 refine WL.sub (m := [(0, .int .u8 c_1), (3, .int .u8 c_1), (4, .bool (decide ((97 : Int) ≤ c_1))), (5, .bool (decide ((97 : Int) ≤ c_1))), (6, .int .u8 c_1), (7, .bool (decide (c_1 ≤ (122 : Int)))), (8, .bool (decide (((97 : Int) ≤ c_1) ∧ (c_1 ≤ (122 : Int))))), (9, .bool (decide (((97 : Int) ≤ c_1) ∧ (c_1 ≤ (122 : Int))))), (10, .int .u8 c_1), (11, .bool (decide ((65 : Int) ≤ c_1))), (12, .bool (decide ((65 : Int) ≤ c_1))), (13, .int .u8 c_1), (14, .bool (decide (c_1 ≤ (90 : Int)))), (15, .bool (decide (((65 : Int) ≤ c_1) ∧ (c_1 ≤ (90 : Int))))), (16, .bool (decide ((((97 : Int) ≤ c_1) ∧ (c_1 ≤ (122 : Int))) ∨ (((65 : Int) ≤ c_1) ∧ (c_1 ≤ (90 : Int)))))), (17, .bool (decide ((((97 : Int) ≤ c_1) ∧ (c_1 ≤ (122 : Int))) ∨ (((65 : Int) ≤ c_1) ∧ (c_1 ≤ (90 : Int)))))), (18, .int .u8 c_1), (19, .bool (decide ((48 : Int) ≤ c_1))), (20, .bool (decide ((48 : Int) ≤ c_1))), (21, .int .u8 c_1), (22, .bool (decide (c_1 ≤ (57 : Int)))), (23, .bool (decide (((48 : Int) ≤ c_1) ∧ (c_1 ≤ (57 : Int)))))]) ⟨rfl, rfl, rfl, rfl, rfl, rfl, rfl, rfl, rfl, rfl, rfl, rfl, rfl, rfl, rfl, rfl, rfl, rfl, rfl, rfl, rfl, congrArg (fun b => some (Value.bool b)) (and_t hg_7 : decide (c_1 ≤ (57 : Int)) = decide (((48 : Int) ≤ c_1) ∧ (c_1 ≤ (57 : Int)))), trivial⟩ ?_
 refine WL.run hS rfl rfl rfl (ex_pick_f rfl hg_6 rfl) ?_
 refine WL.sub (m := [(0, .int .u8 c_1), (3, .int .u8 c_1), (4, .bool (decide ((97 : Int) ≤ c_1))), (5, .bool (decide ((97 : Int) ≤ c_1))), (6, .int .u8 c_1), (7, .bool (decide (c_1 ≤ (122 : Int)))), (8, .bool (decide (((97 : Int) ≤ c_1) ∧ (c_1 ≤ (122 : Int))))), (9, .bool (decide (((97 : Int) ≤ c_1) ∧ (c_1 ≤ (122 : Int))))), (10, .int .u8 c_1), (11, .bool (decide ((65 : Int) ≤ c_1))), (12, .bool (decide ((65 : Int) ≤ c_1))), (13, .int .u8 c_1), (14, .bool (decide (c_1 ≤ (90 : Int)))), (15, .bool (decide (((65 : Int) ≤ c_1) ∧ (c_1 ≤ (90 : Int))))), (16, .bool (decide ((((97 : Int) ≤ c_1) ∧ (c_1 ≤ (122 : Int))) ∨ (((65 : Int) ≤ c_1) ∧ (c_1 ≤ (90 : Int)))))), (17, .bool (decide ((((97 : Int) ≤ c_1) ∧ (c_1 ≤ (122 : Int))) ∨ (((65 : Int) ≤ c_1) ∧ (c_1 ≤ (90 : Int)))))), (18, .int .u8 c_1), (19, .bool (decide ((48 : Int) ≤ c_1))), (20, .bool (decide ((48 : Int) ≤ c_1))), (21, .int .u8 c_1), (22, .bool (decide (c_1 ≤ (57 : Int)))), (23, .bool (decide (((48 : Int) ≤ c_1) ∧ (c_1 ≤ (57 : Int))))), (24, .bool (decide (((((97 : Int) ≤ c_1) ∧ (c_1 ≤ (122 : Int))) ∨ (((65 : Int) ≤ c_1) ∧ (c_1 ≤ (90 : Int)))) ∨ (((48 : Int) ≤ c_1) ∧ (c_1 ≤ (57 : Int))))))]) ⟨rfl, rfl, rfl, rfl, rfl, rfl, rfl, rfl, rfl, rfl, rfl, rfl, rfl, rfl, rfl, rfl, rfl, rfl, rfl, rfl, rfl, rfl, congrArg (fun b => some (Value.bool b)) (or_f hg_6 : decide (((48 : Int) ≤ c_1) ∧ (c_1 ≤ (57 : Int))) = decide (((((97 : Int) ≤ c_1) ∧ (c_1 ≤ (122 : Int))) ∨ (((65 : Int) ≤ c_1) ∧ (c_1 ≤ (90 : Int)))) ∨ (((48 : Int) ≤ c_1) ∧ (c_1 ≤ (57 : Int))))), trivial⟩ ?_
 refine WL.mv rfl rfl ?_
 rcases Bool.eq_false_or_eq_true (decide (((((97 : Int) ≤ c_1) ∧ (c_1 ≤ (122 : Int))) ∨ (((65 : Int) ≤ c_1) ∧ (c_1 ≤ (90 : Int)))) ∨ (((48 : Int) ≤ c_1) ∧ (c_1 ≤ (57 : Int))))) with hg_8 | hg_8
 refine WL.skip_g rfl rfl rfl hg_8 rfl rfl ?_
 refine WL.skip_g rfl rfl rfl hg_8 rfl rfl ?_
 refine WL.run hS rfl rfl rfl (ex_pick_t rfl hg_8 rfl) ?_
 refine WL.sub (m := [(0, .int .u8 c_1), (3, .int .u8 c_1), (4, .bool (decide ((97 : Int) ≤ c_1))), (5, .bool (decide ((97 : Int) ≤ c_1))), (6, .int .u8 c_1), (7, .bool (decide (c_1 ≤ (122 : Int)))), (8, .bool (decide (((97 : Int) ≤ c_1) ∧ (c_1 ≤ (122 : Int))))), (9, .bool (decide (((97 : Int) ≤ c_1) ∧ (c_1 ≤ (122 : Int))))), (10, .int .u8 c_1), (11, .bool (decide ((65 : Int) ≤ c_1))), (12, .bool (decide ((65 : Int) ≤ c_1))), (13, .int .u8 c_1), (14, .bool (decide (c_1 ≤ (90 : Int)))), (15, .bool (decide (((65 : Int) ≤ c_1) ∧ (c_1 ≤ (90 : Int))))), (16, .bool (decide ((((97 : Int) ≤ c_1) ∧ (c_1 ≤ (122 : Int))) ∨ (((65 : Int) ≤ c_1) ∧ (c_1 ≤ (90 : Int)))))), (17, .bool (decide ((((97 : Int) ≤ c_1) ∧ (c_1 ≤ (122 : Int))) ∨ (((65 : Int) ≤ c_1) ∧ (c_1 ≤ (90 : Int)))))), (18, .int .u8 c_1), (19, .bool (decide ((48 : Int) ≤ c_1))), (20, .bool (decide ((48 : Int) ≤ c_1))), (21, .int .u8 c_1), (22, .bool (decide (c_1 ≤ (57 : Int)))), (23, .bool (decide (((48 : Int) ≤ c_1) ∧ (c_1 ≤ (57 : Int))))), (24, .bool (decide (((((97 : Int) ≤ c_1) ∧ (c_1 ≤ (122 : Int))) ∨ (((65 : Int) ≤ c_1) ∧ (c_1 ≤ (90 : Int)))) ∨ (((48 : Int) ≤ c_1) ∧ (c_1 ≤ (57 : Int)))))), (25, .bool (decide (((((97 : Int) ≤ c_1) ∧ (c_1 ≤ (122 : Int))) ∨ (((65 : Int) ≤ c_1) ∧ (c_1 ≤ (90 : Int)))) ∨ (((48 : Int) ≤ c_1) ∧ (c_1 ≤ (57 : Int)))))), (26, undef), (27, undef), (28, .bool (decide ((((((97 : Int) ≤ c_1) ∧ (c_1 ≤ (122 : Int))) ∨ (((65 : Int) ≤ c_1) ∧ (c_1 ≤ (90 : Int)))) ∨ (((48 : Int) ≤ c_1) ∧ (c_1 ≤ (57 : Int)))) ∨ (c_1 = (95 : Int)))))]) ⟨rfl, rfl, rfl, rfl, rfl, rfl, rfl, rfl, rfl, rfl, rfl, rfl, rfl, rfl, rfl, rfl, rfl, rfl, rfl, rfl, rfl, rfl, rfl, rfl, rfl, rfl, congrArg (fun b => some (Value.bool b)) (or_t hg_8 : true = decide ((((((97 : Int) ≤ c_1) ∧ (c_1 ≤ (122 : Int))) ∨ (((65 : Int) ≤ c_1) ∧ (c_1 ≤ (90 : Int)))) ∨ (((48 : Int) ≤ c_1) ∧ (c_1 ≤ (57 : Int)))) ∨ (c_1 = (95 : Int)))), trivial⟩ ?_
 refine WL.ma rfl rfl ?_
 exact WL.nil (At.of ⟨rfl, trivial⟩)
 refine WL.unguard rfl rfl hg_8 ?_
 refine WL.mv rfl rfl ?_
 refine WL.unguard rfl rfl hg_8 ?_
 refine WL.run hS rfl rfl rfl (ex_eql rfl rfl) ?_
 refine WL.run hS rfl rfl rfl (ex_pick_f rfl hg_8 rfl) ?_
 refine WL.sub (m := [(0, .int .u8 c_1), (3, .int .u8 c_1), (4, .bool (decide ((97 : Int) ≤ c_1))), (5, .bool (decide ((97 : Int) ≤ c_1))), (6, .int .u8 c_1), (7, .bool (decide (c_1 ≤ (122 : Int)))), (8, .bool (decide (((97 : Int) ≤ c_1) ∧ (c_1 ≤ (122 : Int))))), (9, .bool (decide (((97 : Int) ≤ c_1) ∧ (c_1 ≤ (122 : Int))))), (10, .int .u8 c_1), (11, .bool (decide ((65 : Int) ≤ c_1))), (12, .bool (decide ((65 : Int) ≤ c_1))), (13, .int .u8 c_1), (14, .bool (decide (c_1 ≤ (90 : Int)))), (15, .bool (decide (((65 : Int) ≤ c_1) ∧ (c_1 ≤ (90 : Int))))), (16, .bool (decide ((((97 : Int) ≤ c_1) ∧ (c_1 ≤ (122 : Int))) ∨ (((65 : Int) ≤ c_1) ∧ (c_1 ≤ (90 : Int)))))), (17, .bool (decide ((((97 : Int) ≤ c_1) ∧ (c_1 ≤ (122 : Int))) ∨ (((65 : Int) ≤ c_1) ∧ (c_1 ≤ (90 : Int)))))), (18, .int .u8 c_1), (19, .bool (decide ((48 : Int) ≤ c_1))), (20, .bool (decide ((48 : Int) ≤ c_1))), (21, .int .u8 c_1), (22, .bool (decide (c_1 ≤ (57 : Int)))), (23, .bool (decide (((48 : Int) ≤ c_1) ∧ (c_1 ≤ (57 : Int))))), (24, .bool (decide (((((97 : Int) ≤ c_1) ∧ (c_1 ≤ (122 : Int))) ∨ (((65 : Int) ≤ c_1) ∧ (c_1 ≤ (90 : Int)))) ∨ (((48 : Int) ≤ c_1) ∧ (c_1 ≤ (57 : Int)))))), (25, .bool (decide (((((97 : Int) ≤ c_1) ∧ (c_1 ≤ (122 : Int))) ∨ (((65 : Int) ≤ c_1) ∧ (c_1 ≤ (90 : Int)))) ∨ (((48 : Int) ≤ c_1) ∧ (c_1 ≤ (57 : Int)))))), (26, .int .u8 c_1), (27, .bool (decide (c_1 = (95 : Int)))), (28, .bool (decide ((((((97 : Int) ≤ c_1) ∧ (c_1 ≤ (122 : Int))) ∨ (((65 : Int) ≤ c_1) ∧ (c_1 ≤ (90 : Int)))) ∨ (((48 : Int) ≤ c_1) ∧ (c_1 ≤ (57 : Int)))) ∨ (c_1 = (95 : Int)))))]) ⟨rfl, rfl, rfl, rfl, rfl, rfl, rfl, rfl, rfl, rfl, rfl, rfl, rfl, rfl, rfl, rfl, rfl, rfl, rfl, rfl, rfl, rfl, rfl, rfl, rfl, rfl, congrArg (fun b => some (Value.bool b)) (or_f hg_8 : decide (c_1 = (95 : Int)) = decide ((((((97 : Int) ≤ c_1) ∧ (c_1 ≤ (122 : Int))) ∨ (((65 : Int) ≤ c_1) ∧ (c_1 ≤ (90 : Int)))) ∨ (((48 : Int) ≤ c_1) ∧ (c_1 ≤ (57 : Int)))) ∨ (c_1 = (95 : Int)))), trivial⟩ ?_
 refine WL.ma rfl rfl ?_
 exact WL.nil (At.of ⟨rfl, trivial⟩)
 refine WL.skip_g rfl rfl rfl hg_7 rfl rfl ?_
 refine WL.skip_g rfl rfl rfl hg_7 rfl rfl ?_
 refine WL.unguard rfl rfl hg_6 ?_
 refine WL.run hS rfl rfl rfl (ex_pick_f rfl hg_7 rfl) ?_
 refine WL.sub (m := [(0, .int .u8 c_1), (3, .int .u8 c_1), (4, .bool (decide ((97 : Int) ≤ c_1))), (5, .bool (decide ((97 : Int) ≤ c_1))), (6, .int .u8 c_1), (7, .bool (decide (c_1 ≤ (122 : Int)))), (8, .bool (decide (((97 : Int) ≤ c_1) ∧ (c_1 ≤ (122 : Int))))), (9, .bool (decide (((97 : Int) ≤ c_1) ∧ (c_1 ≤ (122 : Int))))), (10, .int .u8 c_1), (11, .bool (decide ((65 : Int) ≤ c_1))), (12, .bool (decide ((65 : Int) ≤ c_1))), (13, .int .u8 c_1), (14, .bool (decide (c_1 ≤ (90 : Int)))), (15, .bool (decide (((65 : Int) ≤ c_1) ∧ (c_1 ≤ (90 : Int))))), (16, .bool (decide ((((97 : Int) ≤ c_1) ∧ (c_1 ≤ (122 : Int))) ∨ (((65 : Int) ≤ c_1) ∧ (c_1 ≤ (90 : Int)))))), (17, .bool (decide ((((97 : Int) ≤ c_1) ∧ (c_1 ≤ (122 : Int))) ∨ (((65 : Int) ≤ c_1) ∧ (c_1 ≤ (90 : Int)))))), (18, .int .u8 c_1), (19, .bool (decide ((48 : Int) ≤ c_1))), (20, .bool (decide ((48 : Int) ≤ c_1))), (21, undef), (22, undef), (23, .bool (decide (((48 : Int) ≤ c_1) ∧ (c_1 ≤ (57 : Int)))))]) ⟨rfl, rfl, rfl, rfl, rfl, rfl, rfl, rfl, rfl, rfl, rfl, rfl, rfl, rfl, rfl, rfl, rfl, rfl, rfl, rfl, rfl, congrArg (fun b => some (Value.bool b)) (and_f hg_7 : false = decide (((48 : Int) ≤ c_1) ∧ (c_1 ≤ (57 : Int)))), trivial⟩ ?_
 refine WL.run hS rfl rfl rfl (ex_pick_f rfl hg_6 rfl) ?_
 refine WL.sub (m := [(0, .int .u8 c_1), (3, .int .u8 c_1), (4, .bool (decide ((97 : Int) ≤ c_1))), (5, .bool (decide ((97 : Int) ≤ c_1))), (6, .int .u8 c_1), (7, .bool (decide (c_1 ≤ (122 : Int)))), (8, .bool (decide (((97 : Int) ≤ c_1) ∧ (c_1 ≤ (122 : Int))))), (9, .bool (decide (((97 : Int) ≤ c_1) ∧ (c_1 ≤ (122 : Int))))), (10, .int .u8 c_1), (11, .bool (decide ((65 : Int) ≤ c_1))), (12, .bool (decide ((65 : Int) ≤ c_1))), (13, .int .u8 c_1), (14, .bool (decide (c_1 ≤ (90 : Int)))), (15, .bool (decide (((65 : Int) ≤ c_1) ∧ (c_1 ≤ (90 : Int))))), (16, .bool (decide ((((97 : Int) ≤ c_1) ∧ (c_1 ≤ (122 : Int))) ∨ (((65 : Int) ≤ c_1) ∧ (c_1 ≤ (90 : Int)))))), (17, .bool (decide ((((97 : Int) ≤ c_1) ∧ (c_1 ≤ (122 : Int))) ∨ (((65 : Int) ≤ c_1) ∧ (c_1 ≤ (90 : Int)))))), (18, .int .u8 c_1), (19, .bool (decide ((48 : Int) ≤ c_1))), (20, .bool (decide ((48 : Int) ≤ c_1))), (21, undef), (22, undef), (23, .bool (decide (((48 : Int) ≤ c_1) ∧ (c_1 ≤ (57 : Int))))), (24, .bool (decide (((((97 : Int) ≤ c_1) ∧ (c_1 ≤ (122 : Int))) ∨ (((65 : Int) ≤ c_1) ∧ (c_1 ≤ (90 : Int)))) ∨ (((48 : Int) ≤ c_1) ∧ (c_1 ≤ (57 : Int))))))]) ⟨rfl, rfl, rfl, rfl, rfl, rfl, rfl, rfl, rfl, rfl, rfl, rfl, rfl, rfl, rfl, rfl, rfl, rfl, rfl, rfl, rfl, rfl, congrArg (fun b => some (Value.bool b)) (or_f hg_6 : decide (((48 : Int) ≤ c_1) ∧ (c_1 ≤ (57 : Int))) = decide (((((97 : Int) ≤ c_1) ∧ (c_1 ≤ (122 : Int))) ∨ (((65 : Int) ≤ c_1) ∧ (c_1 ≤ (90 : Int)))) ∨ (((48 : Int) ≤ c_1) ∧ (c_1 ≤ (57 : Int))))), trivial⟩ ?_
 refine WL.mv rfl rfl ?_
 rcases Bool.eq_false_or_eq_true (decide (((((97 : Int) ≤ c_1) ∧ (c_1 ≤ (122 : Int))) ∨ (((65 : Int) ≤ c_1) ∧ (c_1 ≤ (90 : Int)))) ∨ (((48 : Int) ≤ c_1) ∧ (c_1 ≤ (57 : Int))))) with hg_9 | hg_9
 refine WL.skip_g rfl rfl rfl hg_9 rfl rfl ?_
 refine WL.skip_g rfl rfl rfl hg_9 rfl rfl ?_
 refine WL.run hS rfl rfl rfl (ex_pick_t rfl hg_9 rfl) ?_
 refine WL.sub (m := [(0, .int .u8 c_1), (3, .int .u8 c_1), (4, .bool (decide ((97 : Int) ≤ c_1))), (5, .bool (decide ((97 : Int) ≤ c_1))), (6, .int .u8 c_1), (7, .bool (decide (c_1 ≤ (122 : Int)))), (8, .bool (decide (((97 : Int) ≤ c_1) ∧ (c_1 ≤ (122 : Int))))), (9, .bool (decide (((97 : Int) ≤ c_1) ∧ (c_1 ≤ (122 : Int))))), (10, .int .u8 c_1), (11, .bool (decide ((65 : Int) ≤ c_1))), (12, .bool (decide ((65 : Int) ≤ c_1))), (13, .int .u8 c_1), (14, .bool (decide (c_1 ≤ (90 : Int)))), (15, .bool (decide (((65 : Int) ≤ c_1) ∧ (c_1 ≤ (90 : Int))))), (16, .bool (decide ((((97 : Int) ≤ c_1) ∧ (c_1 ≤ (122 : Int))) ∨ (((65 : Int) ≤ c_1) ∧ (c_1 ≤ (90 : Int)))))), (17, .bool (decide ((((97 : Int) ≤ c_1) ∧ (c_1 ≤ (122 : Int))) ∨ (((65 : Int) ≤ c_1) ∧ (c_1 ≤ (90 : Int)))))), (18, .int .u8 c_1), (19, .bool (decide ((48 : Int) ≤ c_1))), (20, .bool (decide ((48 : Int) ≤ c_1))), (21, undef), (22, undef), (23, .bool (decide (((48 : Int) ≤ c_1) ∧ (c_1 ≤ (57 : Int))))), (24, .bool (decide (((((97 : Int) ≤ c_1) ∧ (c_1 ≤ (122 : Int))) ∨ (((65 : Int) ≤ c_1) ∧ (c_1 ≤ (90 : Int)))) ∨ (((48 : Int) ≤ c_1) ∧ (c_1 ≤ (57 : Int)))))), (25, .bool (decide (((((97 : Int) ≤ c_1) ∧ (c_1 ≤ (122 : Int))) ∨ (((65 : Int) ≤ c_1) ∧ (c_1 ≤ (90 : Int)))) ∨ (((48 : Int) ≤ c_1) ∧ (c_1 ≤ (57 : Int)))))), (26, undef), (27, undef), (28, .bool (decide ((((((97 : Int) ≤ c_1) ∧ (c_1 ≤ (122 : Int))) ∨ (((65 : Int) ≤ c_1) ∧ (c_1 ≤ (90 : Int)))) ∨ (((48 : Int) ≤ c_1) ∧ (c_1 ≤ (57 : Int)))) ∨ (c_1 = (95 : Int)))))]) ⟨rfl, rfl, rfl, rfl, rfl, rfl, rfl, rfl, rfl, rfl, rfl, rfl, rfl, rfl, rfl, rfl, rfl, rfl, rfl, rfl, rfl, rfl, rfl, rfl, rfl, rfl, congrArg (fun b => some (Value.bool b)) (or_t hg_9 : true = decide ((((((97 : Int) ≤ c_1) ∧ (c_1 ≤ (122 : Int))) ∨ (((65 : Int) ≤ c_1) ∧ (c_1 ≤ (90 : Int)))) ∨ (((48 : Int) ≤ c_1) ∧ (c_1 ≤ (57 : Int)))) ∨ (c_1 = (95 : Int)))), trivial⟩ ?_
 refine WL.ma rfl rfl ?_
 exact WL.nil (At.of ⟨rfl, trivial⟩)
 refine WL.unguard rfl rfl hg_9 ?_
 refine WL.mv rfl rfl ?_
 refine WL.unguard rfl rfl hg_9 ?_
 refine WL.run hS rfl rfl rfl (ex_eql rfl rfl) ?_
 refine WL.run hS rfl rfl rfl (ex_pick_f rfl hg_9 rfl) ?_
 refine WL.sub (m := [(0, .int .u8 c_1), (3, .int .u8 c_1), (4, .bool (decide ((97 : Int) ≤ c_1))), (5, .bool (decide ((97 : Int) ≤ c_1))), (6, .int .u8 c_1), (7, .bool (decide (c_1 ≤ (122 : Int)))), (8, .bool (decide (((97 : Int) ≤ c_1) ∧ (c_1 ≤ (122 : Int))))), (9, .bool (decide (((97 : Int) ≤ c_1) ∧ (c_1 ≤ (122 : Int))))), (10, .int .u8 c_1), (11, .bool (decide ((65 : Int) ≤ c_1))), (12, .bool (decide ((65 : Int) ≤ c_1))), (13, .int .u8 c_1), (14, .bool (decide (c_1 ≤ (90 : Int)))), (15, .bool (decide (((65 : Int) ≤ c_1) ∧ (c_1 ≤ (90 : Int))))), (16, .bool (decide ((((97 : Int) ≤ c_1) ∧ (c_1 ≤ (122 : Int))) ∨ (((65 : Int) ≤ c_1) ∧ (c_1 ≤ (90 : Int)))))), (17, .bool (decide ((((97 : Int) ≤ c_1) ∧ (c_1 ≤ (122 : Int))) ∨ (((65 : Int) ≤ c_1) ∧ (c_1 ≤ (90 : Int)))))), (18, .int .u8 c_1), (19, .bool (decide ((48 : Int) ≤ c_1))), (20, .bool (decide ((48 : Int) ≤ c_1))), (21, undef), (22, undef), (23, .bool (decide (((48 : Int) ≤ c_1) ∧ (c_1 ≤ (57 : Int))))), (24, .bool (decide (((((97 : Int) ≤ c_1) ∧ (c_1 ≤ (122 : Int))) ∨ (((65 : Int) ≤ c_1) ∧ (c_1 ≤ (90 : Int)))) ∨ (((48 : Int) ≤ c_1) ∧ (c_1 ≤ (57 : Int)))))), (25, .bool (decide (((((97 : Int) ≤ c_1) ∧ (c_1 ≤ (122 : Int))) ∨ (((65 : Int) ≤ c_1) ∧ (c_1 ≤ (90 : Int)))) ∨ (((48 : Int) ≤ c_1) ∧ (c_1 ≤ (57 : Int)))))), (26, .int .u8 c_1), (27, .bool (decide (c_1 = (95 : Int)))), (28, .bool (decide ((((((97 : Int) ≤ c_1) ∧ (c_1 ≤ (122 : Int))) ∨ (((65 : Int) ≤ c_1) ∧ (c_1 ≤ (90 : Int)))) ∨ (((48 : Int) ≤ c_1) ∧ (c_1 ≤ (57 : Int)))) ∨ (c_1 = (95 : Int)))))]) ⟨rfl, rfl, rfl, rfl, rfl, rfl, rfl, rfl, rfl, rfl, rfl, rfl, rfl, rfl, rfl, rfl, rfl, rfl, rfl, rfl, rfl, rfl, rfl, rfl, rfl, rfl, congrArg (fun b => some (Value.bool b)) (or_f hg_9 : decide (c_1 = (95 : Int)) = decide ((((((97 : Int) ≤ c_1) ∧ (c_1 ≤ (122 : Int))) ∨ (((65 : Int) ≤ c_1) ∧ (c_1 ≤ (90 : Int)))) ∨ (((48 : Int) ≤ c_1) ∧ (c_1 ≤ (57 : Int)))) ∨ (c_1 = (95 : Int)))), trivial⟩ ?_
 refine WL.ma rfl rfl ?_
 exact WL.nil (At.of ⟨rfl, trivial⟩)
 refine WL.skip_g rfl rfl rfl hg_5 rfl rfl ?_
 refine WL.skip_g rfl rfl rfl hg_5 rfl rfl ?_
 refine WL.unguard rfl rfl hg_4 ?_
 refine WL.run hS rfl rfl rfl (ex_pick_f rfl hg_5 rfl) ?_
 refine WL.sub (m := [(0, .int .u8 c_1), (3, .int .u8 c_1), (4, .bool (decide ((97 : Int) ≤ c_1))), (5, .bool (decide ((97 : Int) ≤ c_1))), (6, .int .u8 c_1), (7, .bool (decide (c_1 ≤ (122 : Int)))), (8, .bool (decide (((97 : Int) ≤ c_1) ∧ (c_1 ≤ (122 : Int))))), (9, .bool (decide (((97 : Int) ≤ c_1) ∧ (c_1 ≤ (122 : Int))))), (10, .int .u8 c_1), (11, .bool (decide ((65 : Int) ≤ c_1))), (12, .bool (decide ((65 : Int) ≤ c_1))), (13, undef), (14, undef), (15, .bool (decide (((65 : Int) ≤ c_1) ∧ (c_1 ≤ (90 : Int)))))]) ⟨rfl, rfl, rfl, rfl, rfl, rfl, rfl, rfl, rfl, rfl, rfl, rfl, rfl, congrArg (fun b => some (Value.bool b)) (and_f hg_5 : false = decide (((65 : Int) ≤ c_1) ∧ (c_1 ≤ (90 : Int)))), trivial⟩ ?_
 refine WL.run hS rfl rfl rfl (ex_pick_f rfl hg_4 rfl) ?_
 refine WL.sub (m := [(0, .int .u8 c_1), (3, .int .u8 c_1), (4, .bool (decide ((97 : Int) ≤ c_1))), (5, .bool (decide ((97 : Int) ≤ c_1))), (6, .int .u8 c_1), (7, .bool (decide (c_1 ≤ (122 : Int)))), (8, .bool (decide (((97 : Int) ≤ c_1) ∧ (c_1 ≤ (122 : Int))))), (9, .bool (decide (((97 : Int) ≤ c_1) ∧ (c_1 ≤ (122 : Int))))), (10, .int .u8 c_1), (11, .bool (decide ((65 : Int) ≤ c_1))), (12, .bool (decide ((65 : Int) ≤ c_1))), (13, undef), (14, undef), (15, .bool (decide (((65 : Int) ≤ c_1) ∧ (c_1 ≤ (90 : Int))))), (16, .bool (decide ((((97 : Int) ≤ c_1) ∧ (c_1 ≤ (122 : Int))) ∨ (((65 : Int) ≤ c_1) ∧ (c_1 ≤ (90 : Int))))))]) ⟨rfl, rfl, rfl, rfl, rfl, rfl, rfl, rfl, rfl, rfl, rfl, rfl, rfl, rfl, congrArg (fun b => some (Value.bool b)) (or_f hg_4 : decide (((65 : Int) ≤ c_1) ∧ (c_1 ≤ (90 : Int))) = decide ((((97 : Int) ≤ c_1) ∧ (c_1 ≤ (122 : Int))) ∨ (((65 : Int) ≤ c_1) ∧ (c_1 ≤ (90 : Int))))), trivial⟩ ?_
 refine WL.mv rfl rfl ?_
 rcases Bool.eq_false_or_eq_true (decide ((((97 : Int) ≤ c_1) ∧ (c_1 ≤ (122 : Int))) ∨ (((65 : Int) ≤ c_1) ∧ (c_1 ≤ (90 : Int))))) with hg_10 | hg_10
 refine WL.skip_g rfl rfl rfl hg_10 rfl rfl ?_
 refine WL.skip_g rfl rfl rfl hg_10 rfl rfl ?_
 refine WL.skip_g rfl rfl rfl hg_10 rfl rfl ?_
 refine WL.skip_u rfl rfl rfl rfl rfl ?_
 refine WL.skip_u rfl rfl rfl rfl rfl ?_
 refine WL.skip_g rfl rfl rfl hg_10 rfl rfl ?_
 refine WL.run hS rfl rfl rfl (ex_pick_t rfl hg_10 rfl) ?_
 refine WL.sub (m := [(0, .int .u8 c_1), (3, .int .u8 c_1), (4, .bool (decide ((97 : Int) ≤ c_1))), (5, .bool (decide ((97 : Int) ≤ c_1))), (6, .int .u8 c_1), (7, .bool (decide (c_1 ≤ (122 : Int)))), (8, .bool (decide (((97 : Int) ≤ c_1) ∧ (c_1 ≤ (122 : Int))))), (9, .bool (decide (((97 : Int) ≤ c_1) ∧ (c_1 ≤ (122 : Int))))), (10, .int .u8 c_1), (11, .bool (decide ((65 : Int) ≤ c_1))), (12, .bool (decide ((65 : Int) ≤ c_1))), (13, undef), (14, undef), (15, .bool (decide (((65 : Int) ≤ c_1) ∧ (c_1 ≤ (90 : Int))))), (16, .bool (decide ((((97 : Int) ≤ c_1) ∧ (c_1 ≤ (122 : Int))) ∨ (((65 : Int) ≤ c_1) ∧ (c_1 ≤ (90 : Int)))))), (17, .bool (decide ((((97 : Int) ≤ c_1) ∧ (c_1 ≤ (122 : Int))) ∨ (((65 : Int) ≤ c_1) ∧ (c_1 ≤ (90 : Int)))))), (18, undef), (19, undef), (20, undef), (21, undef), (22, undef), (23, undef), (24, .bool (decide (((((97 : Int) ≤ c_1) ∧ (c_1 ≤ (122 : Int))) ∨ (((65 : Int) ≤ c_1) ∧ (c_1 ≤ (90 : Int)))) ∨ (((48 : Int) ≤ c_1) ∧ (c_1 ≤ (57 : Int))))))]) ⟨rfl, rfl, rfl, rfl, rfl, rfl, rfl, rfl, rfl, rfl, rfl, rfl, rfl, rfl, rfl, rfl, rfl, rfl, rfl, rfl, rfl, rfl, congrArg (fun b => some (Value.bool b)) (or_t hg_10 : true = decide (((((97 : Int) ≤ c_1) ∧ (c_1 ≤ (122 : Int))) ∨ (((65 : Int) ≤ c_1) ∧ (c_1 ≤ (90 : Int)))) ∨ (((48 : Int) ≤ c_1) ∧ (c_1 ≤ (57 : Int))))), trivial⟩ ?_
 refine WL.mv rfl rfl ?_
 refine WL.skip_g rfl rfl rfl (or_t hg_10).symm rfl rfl ?_
 refine WL.skip_g rfl rfl rfl (or_t hg_10).symm rfl rfl ?_
 refine WL.run hS rfl rfl rfl (ex_pick_t rfl (or_t hg_10).symm rfl) ?_
 refine WL.sub (m := [(0, .int .u8 c_1), (3, .int .u8 c_1), (4, .bool (decide ((97 : Int) ≤ c_1))), (5, .bool (decide ((97 : Int) ≤ c_1))), (6, .int .u8 c_1), (7, .bool (decide (c_1 ≤ (122 : Int)))), (8, .bool (decide (((97 : Int) ≤ c_1) ∧ (c_1 ≤ (122 : Int))))), (9, .bool (decide (((97 : Int) ≤ c_1) ∧ (c_1 ≤ (122 : Int))))), (10, .int .u8 c_1), (11, .bool (decide ((65 : Int) ≤ c_1))), (12, .bool (decide ((65 : Int) ≤ c_1))), (13, undef), (14, undef), (15, .bool (decide (((65 : Int) ≤ c_1) ∧ (c_1 ≤ (90 : Int))))), (16, .bool (decide ((((97 : Int) ≤ c_1) ∧ (c_1 ≤ (122 : Int))) ∨ (((65 : Int) ≤ c_1) ∧ (c_1 ≤ (90 : Int)))))), (17, .bool (decide ((((97 : Int) ≤ c_1) ∧ (c_1 ≤ (122 : Int))) ∨ (((65 : Int) ≤ c_1) ∧ (c_1 ≤ (90 : Int)))))), (18, undef), (19, undef), (20, undef), (21, undef), (22, undef), (23, undef), (24, .bool (decide (((((97 : Int) ≤ c_1) ∧ (c_1 ≤ (122 : Int))) ∨ (((65 : Int) ≤ c_1) ∧ (c_1 ≤ (90 : Int)))) ∨ (((48 : Int) ≤ c_1) ∧ (c_1 ≤ (57 : Int)))))), (25, .bool (decide (((((97 : Int) ≤ c_1) ∧ (c_1 ≤ (122 : Int))) ∨ (((65 : Int) ≤ c_1) ∧ (c_1 ≤ (90 : Int)))) ∨ (((48 : Int) ≤ c_1) ∧ (c_1 ≤ (57 : Int)))))), (26, undef), (27, undef), (28, .bool (decide ((((((97 : Int) ≤ c_1) ∧ (c_1 ≤ (122 : Int))) ∨ (((65 : Int) ≤ c_1) ∧ (c_1 ≤ (90 : Int)))) ∨ (((48 : Int) ≤ c_1) ∧ (c_1 ≤ (57 : Int)))) ∨ (c_1 = (95 : Int)))))]) ⟨rfl, rfl, rfl, rfl, rfl, rfl, rfl, rfl, rfl, rfl, rfl, rfl, rfl, rfl, rfl, rfl, rfl, rfl, rfl, rfl, rfl, rfl, rfl, rfl, rfl, rfl, congrArg (fun b => some (Value.bool b)) (or_t (or_t hg_10).symm : true = decide ((((((97 : Int) ≤ c_1) ∧ (c_1 ≤ (122 : Int))) ∨ (((65 : Int) ≤ c_1) ∧ (c_1 ≤ (90 : Int)))) ∨ (((48 : Int) ≤ c_1) ∧ (c_1 ≤ (57 : Int)))) ∨ (c_1 = (95 : Int)))), trivial⟩ ?_
 refine WL.ma rfl rfl ?_
 exact WL.nil (At.of ⟨rfl, trivial⟩)
 refine WL.unguard rfl rfl hg_10 ?_
 refine WL.mv rfl rfl ?_
 refine WL.unguard rfl rfl hg_10 ?_
 refine WL.run hS rfl rfl rfl (ex_geq rfl rfl) ?_
 refine WL.unguard rfl rfl hg_10 ?_
 refine WL.mv rfl rfl ?_
 rcases Bool.eq_false_or_eq_true (decide ((48 : Int) ≤ c_1)) with hg_11 | hg_11
 refine WL.unguard rfl rfl hg_11 ?_
 refine WL.mv rfl rfl ?_
 refine WL.unguard rfl rfl hg_11 ?_
 refine WL.run hS rfl rfl rfl (ex_leq rfl rfl) ?_
 refine WL.unguard rfl rfl hg_10 ?_
 refine WL.run hS rfl rfl rfl (ex_pick_t rfl hg_11 rfl) ?_
 refine WL.sub (m := [(0, .int .u8 c_1), (3, .int .u8 c_1), (4, .bool (decide ((97 : Int) ≤ c_1))), (5, .bool (decide ((97 : Int) ≤ c_1))), (6, .int .u8 c_1), (7, .bool (decide (c_1 ≤ (122 : Int)))), (8, .bool (decide (((97 : Int) ≤ c_1) ∧ (c_1 ≤ (122 : Int))))), (9, .bool (decide (((97 : Int) ≤ c_1) ∧ (c_1 ≤ (122 : Int))))), (10, .int .u8 c_1), (11, .bool (decide ((65 : Int) ≤ c_1))), (12, .bool (decide ((65 : Int) ≤ c_1))), (13, undef), (14, undef), (15, .bool (decide (((65 : Int) ≤ c_1) ∧ (c_1 ≤ (90 : Int))))), (16, .bool (decide ((((97 : Int) ≤ c_1) ∧ (c_1 ≤ (122 : Int))) ∨ (((65 : Int) ≤ c_1) ∧ (c_1 ≤ (90 : Int)))))), (17, .bool (decide ((((97 : Int) ≤ c_1) ∧ (c_1 ≤ (122 : Int))) ∨ (((65 : Int) ≤ c_1) ∧ (c_1 ≤ (90 : Int)))))), (18, .int .u8 c_1), (19, .bool (decide ((48 : Int) ≤ c_1))), (20, .bool (decide ((48 : Int) ≤ c_1))), (21, .int .u8 c_1), (22, .bool (decide (c_1 ≤ (57 : Int)))), (23, .bool (decide (((48 : Int) ≤ c_1) ∧ (c_1 ≤ (57 : Int)))))]) ⟨rfl, rfl, rfl, rfl, rfl, rfl, rfl, rfl, rfl, rfl, rfl, rfl, rfl, rfl, rfl, rfl, rfl, rfl, rfl, rfl, rfl, congrArg (fun b => some (Value.bool b)) (and_t hg_11 : decide (c_1 ≤ (57 : Int)) = decide (((48 : Int) ≤ c_1) ∧ (c_1 ≤ (57 : Int)))), trivial⟩ ?_
 refine WL.run hS rfl rfl rfl (ex_pick_f rfl hg_10 rfl) ?_
 refine WL.sub (m := [(0, .int .u8 c_1), (3, .int .u8 c_1), (4, .bool (decide ((97 : Int) ≤ c_1))), (5, .bool (decide ((97 : Int) ≤ c_1))), (6, .int .u8 c_1), (7, .bool (decide (c_1 ≤ (122 : Int)))), (8, .bool (decide (((97 : Int) ≤ c_1) ∧ (c_1 ≤ (122 : Int))))), (9, .bool (decide (((97 : Int) ≤ c_1) ∧ (c_1 ≤ (122 : Int))))), (10, .int .u8 c_1), (11, .bool (decide ((65 : Int) ≤ c_1))), (12, .bool (decide ((65 : Int) ≤ c_1))), (13, undef), (14, undef), (15, .bool (decide (((65 : Int) ≤ c_1) ∧ (c_1 ≤ (90 : Int))))), (16, .bool (decide ((((97 : Int) ≤ c_1) ∧ (c_1 ≤ (122 : Int))) ∨ (((65 : Int) ≤ c_1) ∧ (c_1 ≤ (90 : Int)))))), (17, .bool (decide ((((97 : Int) ≤ c_1) ∧ (c_1 ≤ (122 : Int))) ∨ (((65 : Int) ≤ c_1) ∧ (c_1 ≤ (90 : Int)))))), (18, .int .u8 c_1), (19, .bool (decide ((48 : Int) ≤ c_1))), (20, .bool (decide ((48 : Int) ≤ c_1))), (21, .int .u8 c_1), (22, .bool (decide (c_1 ≤ (57 : Int)))), (23, .bool (decide (((48 : Int) ≤ c_1) ∧ (c_1 ≤ (57 : Int))))), (24, .bool (decide (((((97 : Int) ≤ c_1) ∧ (c_1 ≤ (122 : Int))) ∨ (((65 : Int) ≤ c_1) ∧ (c_1 ≤ (90 : Int)))) ∨ (((48 : Int) ≤ c_1) ∧ (c_1 ≤ (57 : Int))))))]) ⟨rfl, rfl, rfl, rfl, rfl, rfl, rfl, rfl, rfl, rfl, rfl, rfl, rfl, rfl, rfl, rfl, rfl, rfl, rfl, rfl, rfl, rfl, congrArg (fun b => some (Value.bool b)) (or_f hg_10 : decide (((48 : Int) ≤ c_1) ∧ (c_1 ≤ (57 : Int))) = decide (((((97 : Int) ≤ c_1) ∧ (c_1 ≤ (122 : Int))) ∨ (((65 : Int) ≤ c_1) ∧ (c_1 ≤ (90 : Int)))) ∨ (((48 : Int) ≤ c_1) ∧ (c_1 ≤ (57 : Int))))), trivial⟩ ?_
 refine WL.mv rfl rfl ?_
 rcases Bool.eq_false_or_eq_true (decide (((((97 : Int) ≤ c_1) ∧ (c_1 ≤ (122 : Int))) ∨ (((65 : Int) ≤ c_1) ∧ (c_1 ≤ (90 : Int)))) ∨ (((48 : Int) ≤ c_1) ∧ (c_1 ≤ (57 : Int))))) with hg_12 | hg_12
 refine WL.skip_g rfl rfl rfl hg_12 rfl rfl ?_
 refine WL.skip_g rfl rfl rfl hg_12 rfl rfl ?_
 refine WL.run hS rfl rfl rfl (ex_pick_t rfl hg_12 rfl) ?_
 refine WL.sub (m := [(0, .int .u8 c_1), (3, .int .u8 c_1), (4, .bool (decide ((97 : Int) ≤ c_1))), (5, .bool (decide ((97 : Int) ≤ c_1))), (6, .int .u8 c_1), (7, .bool (decide (c_1 ≤ (122 : Int)))), (8, .bool (decide (((97 : Int) ≤ c_1) ∧ (c_1 ≤ (122 : Int))))), (9, .bool (decide (((97 : Int) ≤ c_1) ∧ (c_1 ≤ (122 : Int))))), (10, .int .u8 c_1), (11, .bool (decide ((65 : Int) ≤ c_1))), (12, .bool (decide ((65 : Int) ≤ c_1))), (13, undef), (14, undef), (15, .bool (decide (((65 : Int) ≤ c_1) ∧ (c_1 ≤ (90 : Int))))), (16, .bool (decide ((((97 : Int) ≤ c_1) ∧ (c_1 ≤ (122 : Int))) ∨ (((65 : Int) ≤ c_1) ∧ (c_1 ≤ (90 : Int)))))), (17, .bool (decide ((((97 : Int) ≤ c_1) ∧ (c_1 ≤ (122 : Int))) ∨ (((65 : Int) ≤ c_1) ∧ (c_1 ≤ (90 : Int)))))), (18, .int .u8 c_1), (19, .bool (decide ((48 : Int) ≤ c_1))), (20, .bool (decide ((48 : Int) ≤ c_1))), (21, .int .u8 c_1), (22, .bool (decide (c_1 ≤ (57 : Int)))), (23, .bool (decide (((48 : Int) ≤ c_1) ∧ (c_1 ≤ (57 : Int))))), (24, .bool (decide (((((97 : Int) ≤ c_1) ∧ (c_1 ≤ (122 : Int))) ∨ (((65 : Int) ≤ c_1) ∧ (c_1 ≤ (90 : Int)))) ∨ (((48 : Int) ≤ c_1) ∧ (c_1 ≤ (57 : Int)))))), (25, .bool (decide (((((97 : Int) ≤ c_1) ∧ (c_1 ≤ (122 : Int))) ∨ (((65 : Int) ≤ c_1) ∧ (c_1 ≤ (90 : Int)))) ∨ (((48 : Int) ≤ c_1) ∧ (c_1 ≤ (57 : Int)))))), (26, undef), (27, undef), (28, .bool (decide ((((((97 : Int) ≤ c_1) ∧ (c_1 ≤ (122 : Int))) ∨ (((65 : Int) ≤ c_1) ∧ (c_1 ≤ (90 : Int)))) ∨ (((48 : Int) ≤ c_1) ∧ (c_1 ≤ (57 : Int)))) ∨ (c_1 = (95 : Int)))))]) ⟨rfl, rfl, rfl, rfl, rfl, rfl, rfl, rfl, rfl, rfl, rfl, rfl, rfl, rfl, rfl, rfl, rfl, rfl, rfl, rfl, rfl, rfl, rfl, rfl, rfl, rfl, congrArg (fun b => some (Value.bool b)) (or_t hg_12 : true = decide ((((((97 : Int) ≤ c_1) ∧ (c_1 ≤ (122 : Int))) ∨ (((65 : Int) ≤ c_1) ∧ (c_1 ≤ (90 : Int)))) ∨ (((48 : Int) ≤ c_1) ∧ (c_1 ≤ (57 : Int)))) ∨ (c_1 = (95 : Int)))), trivial⟩ ?_
 refine WL.ma rfl rfl ?_
 exact WL.nil (At.of ⟨rfl, trivial⟩)
 refine WL.unguard rfl rfl hg_12 ?_
 refine WL.mv rfl rfl ?_
 refine WL.unguard rfl rfl hg_12 ?_
 refine WL.run hS rfl rfl rfl (ex_eql rfl rfl) ?_
 refine WL.run hS rfl rfl rfl (ex_pick_f rfl hg_12 rfl) ?_
 refine WL.sub (m := [(0, .int .u8 c_1), (3, .int .u8 c_1), (4, .bool (decide ((97 : Int) ≤ c_1))), (5, .bool (decide ((97 : Int) ≤ c_1))), (6, .int .u8 c_1), (7, .bool (decide (c_1 ≤ (122 : Int)))), (8, .bool (decide (((97 : Int) ≤ c_1) ∧ (c_1 ≤ (122 : Int))))), (9, .bool (decide (((97 : Int) ≤ c_1) ∧ (c_1 ≤ (122 : Int))))), (10, .int .u8 c_1), (11, .bool (decide ((65 : Int) ≤ c_1))), (12, .bool (decide ((65 : Int) ≤ c_1))), (13, undef), (14, undef), (15, .bool (decide (((65 : Int) ≤ c_1) ∧ (c_1 ≤ (90 : Int))))), (16, .bool (decide ((((97 : Int) ≤ c_1) ∧ (c_1 ≤ (122 : Int))) ∨ (((65 : Int) ≤ c_1) ∧ (c_1 ≤ (90 : Int)))))), (17, .bool (decide ((((97 : Int) ≤ c_1) ∧ (c_1 ≤ (122 : Int))) ∨ (((65 : Int) ≤ c_1) ∧ (c_1 ≤ (90 : Int)))))), (18, .int .u8 c_1), (19, .bool (decide ((48 : Int) ≤ c_1))), (20, .bool (decide ((48 : Int) ≤ c_1))), (21, .int .u8 c_1), (22, .bool (decide (c_1 ≤ (57 : Int)))), (23, .bool (decide (((48 : Int) ≤ c_1) ∧ (c_1 ≤ (57 : Int))))), (24, .bool (decide (((((97 : Int) ≤ c_1) ∧ (c_1 ≤ (122 : Int))) ∨ (((65 : Int) ≤ c_1) ∧ (c_1 ≤ (90 : Int)))) ∨ (((48 : Int) ≤ c_1) ∧ (c_1 ≤ (57 : Int)))))), (25, .bool (decide (((((97 : Int) ≤ c_1) ∧ (c_1 ≤ (122 : Int))) ∨ (((65 : Int) ≤ c_1) ∧ (c_1 ≤ (90 : Int)))) ∨ (((48 : Int) ≤ c_1) ∧ (c_1 ≤ (57 : Int)))))), (26, .int .u8 c_1), (27, .bool (decide (c_1 = (95 : Int)))), (28, .bool (decide ((((((97 : Int) ≤ c_1) ∧ (c_1 ≤ (122 : Int))) ∨ (((65 : Int) ≤ c_1) ∧ (c_1 ≤ (90 : Int)))) ∨ (((48 : Int) ≤ c_1) ∧ (c_1 ≤ (57 : Int)))) ∨ (c_1 = (95 : Int)))))]) ⟨rfl, rfl, rfl, rfl, rfl, rfl, rfl, rfl, rfl, rfl, rfl, rfl, rfl, rfl, rfl, rfl, rfl, rfl, rfl, rfl, rfl, rfl, rfl, rfl, rfl, rfl, congrArg (fun b => some (Value.bool b)) (or_f hg_12 : decide (c_1 = (95 : Int)) = decide ((((((97 : Int) ≤ c_1) ∧ (c_1 ≤ (122 : Int))) ∨ (((65 : Int) ≤ c_1) ∧ (c_1 ≤ (90 : Int)))) ∨ (((48 : Int) ≤ c_1) ∧ (c_1 ≤ (57 : Int)))) ∨ (c_1 = (95 : Int)))), trivial⟩ ?_
 refine WL.ma rfl rfl ?_
 exact WL.nil (At.of ⟨rfl, trivial⟩)
 refine WL.skip_g rfl rfl rfl hg_11 rfl rfl ?_
 refine WL.skip_g rfl rfl rfl hg_11 rfl rfl ?_
 refine WL.unguard rfl rfl hg_10 ?_
 refine WL.run hS rfl rfl rfl (ex_pick_f rfl hg_11 rfl) ?_
 refine WL.sub (m := [(0, .int .u8 c_1), (3, .int .u8 c_1), (4, .bool (decide ((97 : Int) ≤ c_1))), (5, .bool (decide ((97 : Int) ≤ c_1))), (6, .int .u8 c_1), (7, .bool (decide (c_1 ≤ (122 : Int)))), (8, .bool (decide (((97 : Int) ≤ c_1) ∧ (c_1 ≤ (122 : Int))))), (9, .bool (decide (((97 : Int) ≤ c_1) ∧ (c_1 ≤ (122 : Int))))), (10, .int .u8 c_1), (11, .bool (decide ((65 : Int) ≤ c_1))), (12, .bool (decide ((65 : Int) ≤ c_1))), (13, undef), (14, undef), (15, .bool (decide (((65 : Int) ≤ c_1) ∧ (c_1 ≤ (90 : Int))))), (16, .bool (decide ((((97 : Int) ≤ c_1) ∧ (c_1 ≤ (122 : Int))) ∨ (((65 : Int) ≤ c_1) ∧ (c_1 ≤ (90 : Int)))))), (17, .bool (decide ((((97 : Int) ≤ c_1) ∧ (c_1 ≤ (122 : Int))) ∨ (((65 : Int) ≤ c_1) ∧ (c_1 ≤ (90 : Int)))))), (18, .int .u8 c_1), (19, .bool (decide ((48 : Int) ≤ c_1))), (20, .bool (decide ((48 : Int) ≤ c_1))), (21, undef), (22, undef), (23, .bool (decide (((48 : Int) ≤ c_1) ∧ (c_1 ≤ (57 : Int)))))]) ⟨rfl, rfl, rfl, rfl, rfl, rfl, rfl, rfl, rfl, rfl, rfl, rfl, rfl, rfl, rfl, rfl, rfl, rfl, rfl, rfl, rfl, congrArg (fun b => some (Value.bool b)) (and_f hg_11 : false = decide (((48 : Int) ≤ c_1) ∧ (c_1 ≤ (57 : Int)))), trivial⟩ ?_
 refine WL.run hS rfl rfl rfl (ex_pick_f rfl hg_10 rfl) ?_
 refine WL.sub (m := [(0, .int .u8 c_1), (3, .int .u8 c_1), (4, .bool (decide ((97 : Int) ≤ c_1))), (5, .bool (decide ((97 : Int) ≤ c_1))), (6, .int .u8 c_1), (7, .bool (decide (c_1 ≤ (122 : Int)))), (8, .bool (decide (((97 : Int) ≤ c_1) ∧ (c_1 ≤ (122 : Int))))), (9, .bool (decide (((97 : Int) ≤ c_1) ∧ (c_1 ≤ (122 : Int))))), (10, .int .u8 c_1), (11, .bool (decide ((65 : Int) ≤ c_1))), (12, .bool (decide ((65 : Int) ≤ c_1))), (13, undef), (14, undef), (15, .bool (decide (((65 : Int) ≤ c_1) ∧ (c_1 ≤ (90 : Int))))), (16, .bool (decide ((((97 : Int) ≤ c_1) ∧ (c_1 ≤ (122 : Int))) ∨ (((65 : Int) ≤ c_1) ∧ (c_1 ≤ (90 : Int)))))), (17, .bool (decide ((((97 : Int) ≤ c_1) ∧ (c_1 ≤ (122 : Int))) ∨ (((65 : Int) ≤ c_1) ∧ (c_1 ≤ (90 : Int)))))), (18, .int .u8 c_1), (19, .bool (decide ((48 : Int) ≤ c_1))), (20, .bool (decide ((48 : Int) ≤ c_1))), (21, undef), (22, undef), (23, .bool (decide (((48 : Int) ≤ c_1) ∧ (c_1 ≤ (57 : Int))))), (24, .bool (decide (((((97 : Int) ≤ c_1) ∧ (c_1 ≤ (122 : Int))) ∨ (((65 : Int) ≤ c_1) ∧ (c_1 ≤ (90 : Int)))) ∨ (((48 : Int) ≤ c_1) ∧ (c_1 ≤ (57 : Int))))))]) ⟨rfl, rfl, rfl, rfl, rfl, rfl, rfl, rfl, rfl, rfl, rfl, rfl, rfl, rfl, rfl, rfl, rfl, rfl, rfl, rfl, rfl, rfl, congrArg (fun b => some (Value.bool b)) (or_f hg_10 : decide (((48 : Int) ≤ c_1) ∧ (c_1 ≤ (57 : Int))) = decide (((((97 : Int) ≤ c_1) ∧ (c_1 ≤ (122 : Int))) ∨ (((65 : Int) ≤ c_1) ∧ (c_1 ≤ (90 : Int)))) ∨ (((48 : Int) ≤ c_1) ∧ (c_1 ≤ (57 : Int))))), trivial⟩ ?_
 refine WL.mv rfl rfl ?_
 rcases Bool.eq_false_or_eq_true (decide (((((97 : Int) ≤ c_1) ∧ (c_1 ≤ (122 : Int))) ∨ (((65 : Int) ≤ c_1) ∧ (c_1 ≤ (90 : Int)))) ∨ (((48 : Int) ≤ c_1) ∧ (c_1 ≤ (57 : Int))))) with hg_13 | hg_13
 refine WL.skip_g rfl rfl rfl hg_13 rfl rfl ?_
 refine WL.skip_g rfl rfl rfl hg_13 rfl rfl ?_
 refine WL.run hS rfl rfl rfl (ex_pick_t rfl hg_13 rfl) ?_
 refine WL.sub (m := [(0, .int .u8 c_1), (3, .int .u8 c_1), (4, .bool (decide ((97 : Int) ≤ c_1))), (5, .bool (decide ((97 : Int) ≤ c_1))), (6, .int .u8 c_1), (7, .bool (decide (c_1 ≤ (122 : Int)))), (8, .bool (decide (((97 : Int) ≤ c_1) ∧ (c_1 ≤ (122 : Int))))), (9, .bool (decide (((97 : Int) ≤ c_1) ∧ (c_1 ≤ (122 : Int))))), (10, .int .u8 c_1), (11, .bool (decide ((65 : Int) ≤ c_1))), (12, .bool (decide ((65 : Int) ≤ c_1))), (13, undef), (14, undef), (15, .bool (decide (((65 : Int) ≤ c_1) ∧ (c_1 ≤ (90 : Int))))), (16, .bool (decide ((((97 : Int) ≤ c_1) ∧ (c_1 ≤ (122 : Int))) ∨ (((65 : Int) ≤ c_1) ∧ (c_1 ≤ (90 : Int)))))), (17, .bool (decide ((((97 : Int) ≤ c_1) ∧ (c_1 ≤ (122 : Int))) ∨ (((65 : Int) ≤ c_1) ∧ (c_1 ≤ (90 : Int)))))), (18, .int .u8 c_1), (19, .bool (decide ((48 : Int) ≤ c_1))), (20, .bool (decide ((48 : Int) ≤ c_1))), (21, undef), (22, undef), (23, .bool (decide (((48 : Int) ≤ c_1) ∧ (c_1 ≤ (57 : Int))))), (24, .bool (decide (((((97 : Int) ≤ c_1) ∧ (c_1 ≤ (122 : Int))) ∨ (((65 : Int) ≤ c_1) ∧ (c_1 ≤ (90 : Int)))) ∨ (((48 : Int) ≤ c_1) ∧ (c_1 ≤ (57 : Int)))))), (25, .bool (decide (((((97 : Int) ≤ c_1) ∧ (c_1 ≤ (122 : Int))) ∨ (((65 : Int) ≤ c_1) ∧ (c_1 ≤ (90 : Int)))) ∨ (((48 : Int) ≤ c_1) ∧ (c_1 ≤ (57 : Int)))))), (26, undef), (27, undef), (28, .bool (decide ((((((97 : Int) ≤ c_1) ∧ (c_1 ≤ (122 : Int))) ∨ (((65 : Int) ≤ c_1) ∧ (c_1 ≤ (90 : Int)))) ∨ (((48 : Int) ≤ c_1) ∧ (c_1 ≤ (57 : Int)))) ∨ (c_1 = (95 : Int)))))]) ⟨rfl, rfl, rfl, rfl, rfl, rfl, rfl, rfl, rfl, rfl, rfl, rfl, rfl, rfl, rfl, rfl, rfl, rfl, rfl, rfl, rfl, rfl, rfl, rfl, rfl, rfl, congrArg (fun b => some (Value.bool b)) (or_t hg_13 : true = decide ((((((97 : Int) ≤ c_1) ∧ (c_1 ≤ (122 : Int))) ∨ (((65 : Int) ≤ c_1) ∧ (c_1 ≤ (90 : Int)))) ∨ (((48 : Int) ≤ c_1) ∧ (c_1 ≤ (57 : Int)))) ∨ (c_1 = (95 : Int)))), trivial⟩ ?_
 refine WL.ma rfl rfl ?_
 exact WL.nil (At.of ⟨rfl, trivial⟩)
 refine WL.unguard rfl rfl hg_13 ?_
 refine WL.mv rfl rfl ?_
 refine WL.unguard rfl rfl hg_13 ?_
 refine WL.run hS rfl rfl rfl (ex_eql rfl rfl) ?_
 refine WL.run hS rfl rfl rfl (ex_pick_f rfl hg_13 rfl) ?_
 refine WL.sub (m := [(0, .int .u8 c_1), (3, .int .u8 c_1), (4, .bool (decide ((97 : Int) ≤ c_1))), (5, .bool (decide ((97 : Int) ≤ c_1))), (6, .int .u8 c_1), (7, .bool (decide (c_1 ≤ (122 : Int)))), (8, .bool (decide (((97 : Int) ≤ c_1) ∧ (c_1 ≤ (122 : Int))))), (9, .bool (decide (((97 : Int) ≤ c_1) ∧ (c_1 ≤ (122 : Int))))), (10, .int .u8 c_1), (11, .bool (decide ((65 : Int) ≤ c_1))), (12, .bool (decide ((65 : Int) ≤ c_1))), (13, undef), (14, undef), (15, .bool (decide (((65 : Int) ≤ c_1) ∧ (c_1 ≤ (90 : Int))))), (16, .bool (decide ((((97 : Int) ≤ c_1) ∧ (c_1 ≤ (122 : Int))) ∨ (((65 : Int) ≤ c_1) ∧ (c_1 ≤ (90 : Int)))))), (17, .bool (decide ((((97 : Int) ≤ c_1) ∧ (c_1 ≤ (122 : Int))) ∨ (((65 : Int) ≤ c_1) ∧ (c_1 ≤ (90 : Int)))))), (18, .int .u8 c_1), (19, .bool (decide ((48 : Int) ≤ c_1))), (20, .bool (decide ((48 : Int) ≤ c_1))), (21, undef), (22, undef), (23, .bool (decide (((48 : Int) ≤ c_1) ∧ (c_1 ≤ (57 : Int))))), (24, .bool (decide (((((97 : Int) ≤ c_1) ∧ (c_1 ≤ (122 : Int))) ∨ (((65 : Int) ≤ c_1) ∧ (c_1 ≤ (90 : Int)))) ∨ (((48 : Int) ≤ c_1) ∧ (c_1 ≤ (57 : Int)))))), (25, .bool (decide (((((97 : Int) ≤ c_1) ∧ (c_1 ≤ (122 : Int))) ∨ (((65 : Int) ≤ c_1) ∧ (c_1 ≤ (90 : Int)))) ∨ (((48 : Int) ≤ c_1) ∧ (c_1 ≤ (57 : Int)))))), (26, .int .u8 c_1), (27, .bool (decide (c_1 = (95 : Int)))), (28, .bool (decide ((((((97 : Int) ≤ c_1) ∧ (c_1 ≤ (122 : Int))) ∨ (((65 : Int) ≤ c_1) ∧ (c_1 ≤ (90 : Int)))) ∨ (((48 : Int) ≤ c_1) ∧ (c_1 ≤ (57 : Int)))) ∨ (c_1 = (95 : Int)))))]) ⟨rfl, rfl, rfl, rfl, rfl, rfl, rfl, rfl, rfl, rfl, rfl, rfl, rfl, rfl, rfl, rfl, rfl, rfl, rfl, rfl, rfl, rfl, rfl, rfl, rfl, rfl, congrArg (fun b => some (Value.bool b)) (or_f hg_13 : decide (c_1 = (95 : Int)) = decide ((((((97 : Int) ≤ c_1) ∧ (c_1 ≤ (122 : Int))) ∨ (((65 : Int) ≤ c_1) ∧ (c_1 ≤ (90 : Int)))) ∨ (((48 : Int) ≤ c_1) ∧ (c_1 ≤ (57 : Int)))) ∨ (c_1 = (95 : Int)))), trivial⟩ ?_
 refine WL.ma rfl rfl ?_
 exact WL.nil (At.of ⟨rfl, trivial⟩)
 refine WL.skip_g rfl rfl rfl hg_3 rfl rfl ?_
 refine WL.skip_g rfl rfl rfl hg_3 rfl rfl ?_
 refine WL.run hS rfl rfl rfl (ex_pick_f rfl hg_3 rfl) ?_
 refine WL.sub (m := [(0, .int .u8 c_1), (3, .int .u8 c_1), (4, .bool (decide ((97 : Int) ≤ c_1))), (5, .bool (decide ((97 : Int) ≤ c_1))), (6, undef), (7, undef), (8, .bool (decide (((97 : Int) ≤ c_1) ∧ (c_1 ≤ (122 : Int)))))]) ⟨rfl, rfl, rfl, rfl, rfl, rfl, congrArg (fun b => some (Value.bool b)) (and_f hg_3 : false = decide (((97 : Int) ≤ c_1) ∧ (c_1 ≤ (122 : Int)))), trivial⟩ ?_
 refine WL.mv rfl rfl ?_
 refine WL.unguard rfl rfl (and_f hg_3).symm ?_
 refine WL.mv rfl rfl ?_
 refine WL.unguard rfl rfl (and_f hg_3).symm ?_
 refine WL.run hS rfl rfl rfl (ex_geq rfl rfl) ?_
 refine WL.unguard rfl rfl (and_f hg_3).symm ?_
 refine WL.mv rfl rfl ?_
 rcases Bool.eq_false_or_eq_true (decide ((65 : Int) ≤ c_1)) with hg_14 | hg_14
 refine WL.unguard rfl rfl hg_14 ?_
 refine WL.mv rfl rfl ?_
 refine WL.unguard rfl rfl hg_14 ?_
 refine WL.run hS rfl rfl rfl (ex_leq rfl rfl) ?_
 refine WL.unguard rfl rfl (and_f hg_3).symm ?_
 refine WL.run hS rfl rfl rfl (ex_pick_t rfl hg_14 rfl) ?_
 refine WL.sub (m := [(0, .int .u8 c_1), (3, .int .u8 c_1), (4, .bool (decide ((97 : Int) ≤ c_1))), (5, .bool (decide ((97 : Int) ≤ c_1))), (6, undef), (7, undef), (8, .bool (decide (((97 : Int) ≤ c_1) ∧ (c_1 ≤ (122 : Int))))), (9, .bool (decide (((97 : Int) ≤ c_1) ∧ (c_1 ≤ (122 : Int))))), (10, .int .u8 c_1), (11, .bool (decide ((65 : Int) ≤ c_1))), (12, .bool (decide ((65 : Int) ≤ c_1))), (13, .int .u8 c_1), (14, .bool (decide (c_1 ≤ (90 : Int)))), (15, .bool (decide (((65 : Int) ≤ c_1) ∧ (c_1 ≤ (90 : Int)))))]) ⟨rfl, rfl, rfl, rfl, rfl, rfl, rfl, rfl, rfl, rfl, rfl, rfl, rfl, congrArg (fun b => some (Value.bool b)) (and_t hg_14 : decide (c_1 ≤ (90 : Int)) = decide (((65 : Int) ≤ c_1) ∧ (c_1 ≤ (90 : Int)))), trivial⟩ ?_
 refine WL.run hS rfl rfl rfl (ex_pick_f rfl (and_f hg_3).symm rfl) ?_
 refine WL.sub (m := [(0, .int .u8 c_1), (3, .int .u8 c_1), (4, .bool (decide ((97 : Int) ≤ c_1))), (5, .bool (decide ((97 : Int) ≤ c_1))), (6, undef), (7, undef), (8, .bool (decide (((97 : Int) ≤ c_1) ∧ (c_1 ≤ (122 : Int))))), (9, .bool (decide (((97 : Int) ≤ c_1) ∧ (c_1 ≤ (122 : Int))))), (10, .int .u8 c_1), (11, .bool (decide ((65 : Int) ≤ c_1))), (12, .bool (decide ((65 : Int) ≤ c_1))), (13, .int .u8 c_1), (14, .bool (decide (c_1 ≤ (90 : Int)))), (15, .bool (decide (((65 : Int) ≤ c_1) ∧ (c_1 ≤ (90 : Int))))), (16, .bool (decide ((((97 : Int) ≤ c_1) ∧ (c_1 ≤ (122 : Int))) ∨ (((65 : Int) ≤ c_1) ∧ (c_1 ≤ (90 : Int))))))]) ⟨rfl, rfl, rfl, rfl, rfl, rfl, rfl, rfl, rfl, rfl, rfl, rfl, rfl, rfl, congrArg (fun b => some (Value.bool b)) (or_f (and_f hg_3).symm : decide (((65 : Int) ≤ c_1) ∧ (c_1 ≤ (90 : Int))) = decide ((((97 : Int) ≤ c_1) ∧ (c_1 ≤ (122 : Int))) ∨ (((65 : Int) ≤ c_1) ∧ (c_1 ≤ (90 : Int))))), trivial⟩ ?_
 refine WL.mv rfl rfl ?_
 rcases Bool.eq_false_or_eq_true (decide ((((97 : Int) ≤ c_1) ∧ (c_1 ≤ (122 : Int))) ∨ (((65 : Int) ≤ c_1) ∧ (c_1 ≤ (90 : Int))))) with hg_15 | hg_15
 refine WL.skip_g rfl rfl rfl hg_15 rfl rfl ?_
 refine WL.skip_g rfl rfl rfl hg_15 rfl rfl ?_
 refine WL.skip_g rfl rfl rfl hg_15 rfl rfl ?_
 refine WL.skip_u rfl rfl rfl rfl rfl ?_
 refine WL.skip_u rfl rfl rfl rfl rfl ?_
 refine WL.skip_g rfl rfl rfl hg_15 rfl rfl ?_
 refine WL.run hS rfl rfl rfl (ex_pick_t rfl hg_15 rfl) ?_
 refine WL.sub (m := [(0, .int .u8 c_1), (3, .int .u8 c_1), (4, .bool (decide ((97 : Int) ≤ c_1))), (5, .bool (decide ((97 : Int) ≤ c_1))), (6, undef), (7, undef), (8, .bool (decide (((97 : Int) ≤ c_1) ∧ (c_1 ≤ (122 : Int))))), (9, .bool (decide (((97 : Int) ≤ c_1) ∧ (c_1 ≤ (122 : Int))))), (10, .int .u8 c_1), (11, .bool (decide ((65 : Int) ≤ c_1))), (12, .bool (decide ((65 : Int) ≤ c_1))), (13, .int .u8 c_1), (14, .bool (decide (c_1 ≤ (90 : Int)))), (15, .bool (decide (((65 : Int) ≤ c_1) ∧ (c_1 ≤ (90 : Int))))), (16, .bool (decide ((((97 : Int) ≤ c_1) ∧ (c_1 ≤ (122 : Int))) ∨ (((65 : Int) ≤ c_1) ∧ (c_1 ≤ (90 : Int)))))), (17, .bool (decide ((((97 : Int) ≤ c_1) ∧ (c_1 ≤ (122 : Int))) ∨ (((65 : Int) ≤ c_1) ∧ (c_1 ≤ (90 : Int)))))), (18, undef), (19, undef), (20, undef), (21, undef), (22, undef), (23, undef), (24, .bool (decide (((((97 : Int) ≤ c_1) ∧ (c_1 ≤ (122 : Int))) ∨ (((65 : Int) ≤ c_1) ∧ (c_1 ≤ (90 : Int)))) ∨ (((48 : Int) ≤ c_1) ∧ (c_1 ≤ (57 : Int))))))]) ⟨rfl, rfl, rfl, rfl, rfl, rfl, rfl, rfl, rfl, rfl, rfl, rfl, rfl, rfl, rfl, rfl, rfl, rfl, rfl, rfl, rfl, rfl, congrArg (fun b => some (Value.bool b)) (or_t hg_15 : true = decide (((((97 : Int) ≤ c_1) ∧ (c_1 ≤ (122 : Int))) ∨ (((65 : Int) ≤ c_1) ∧ (c_1 ≤ (90 : Int)))) ∨ (((48 : Int) ≤ c_1) ∧ (c_1 ≤ (57 : Int))))), trivial⟩ ?_
 refine WL.mv rfl rfl ?_
 refine WL.skip_g rfl rfl rfl (or_t hg_15).symm rfl rfl ?_
 refine WL.skip_g rfl rfl rfl (or_t hg_15).symm rfl rfl ?_
 refine WL.run hS rfl rfl rfl (ex_pick_t rfl (or_t hg_15).symm rfl) ?_
 refine WL.sub (m := [(0, .int .u8 c_1), (3, .int .u8 c_1), (4, .bool (decide ((97 : Int) ≤ c_1))), (5, .bool (decide ((97 : Int) ≤ c_1))), (6, undef), (7, undef), (8, .bool (decide (((97 : Int) ≤ c_1) ∧ (c_1 ≤ (122 : Int))))), (9, .bool (decide (((97 : Int) ≤ c_1) ∧ (c_1 ≤ (122 : Int))))), (10, .int .u8 c_1), (11, .bool (decide ((65 : Int) ≤ c_1))), (12, .bool (decide ((65 : Int) ≤ c_1))), (13, .int .u8 c_1), (14, .bool (decide (c_1 ≤ (90 : Int)))), (15, .bool (decide (((65 : Int) ≤ c_1) ∧ (c_1 ≤ (90 : Int))))), (16, .bool (decide ((((97 : Int) ≤ c_1) ∧ (c_1 ≤ (122 : Int))) ∨ (((65 : Int) ≤ c_1) ∧ (c_1 ≤ (90 : Int)))))), (17, .bool (decide ((((97 : Int) ≤ c_1) ∧ (c_1 ≤ (122 : Int))) ∨ (((65 : Int) ≤ c_1) ∧ (c_1 ≤ (90 : Int)))))), (18, undef), (19, undef), (20, undef), (21, undef), (22, undef), (23, undef), (24, .bool (decide (((((97 : Int) ≤ c_1) ∧ (c_1 ≤ (122 : Int))) ∨ (((65 : Int) ≤ c_1) ∧ (c_1 ≤ (90 : Int)))) ∨ (((48 : Int) ≤ c_1) ∧ (c_1 ≤ (57 : Int)))))), (25, .bool (decide (((((97 : Int) ≤ c_1) ∧ (c_1 ≤ (122 : Int))) ∨ (((65 : Int) ≤ c_1) ∧ (c_1 ≤ (90 : Int)))) ∨ (((48 : Int) ≤ c_1) ∧ (c_1 ≤ (57 : Int)))))), (26, undef), (27, undef), (28, .bool (decide ((((((97 : Int) ≤ c_1) ∧ (c_1 ≤ (122 : Int))) ∨ (((65 : Int) ≤ c_1) ∧ (c_1 ≤ (90 : Int)))) ∨ (((48 : Int) ≤ c_1) ∧ (c_1 ≤ (57 : Int)))) ∨ (c_1 = (95 : Int)))))]) ⟨rfl, rfl, rfl, rfl, rfl, rfl, rfl, rfl, rfl, rfl, rfl, rfl, rfl, rfl, rfl, rfl, rfl, rfl, rfl, rfl, rfl, rfl, rfl, rfl, rfl, rfl, congrArg (fun b => some (Value.bool b)) (or_t (or_t hg_15).symm : true = decide ((((((97 : Int) ≤ c_1) ∧ (c_1 ≤ (122 : Int))) ∨ (((65 : Int) ≤ c_1) ∧ (c_1 ≤ (90 : Int)))) ∨ (((48 : Int) ≤ c_1) ∧ (c_1 ≤ (57 : Int)))) ∨ (c_1 = (95 : Int)))), trivial⟩ ?_
 refine WL.ma rfl rfl ?_
 exact WL.nil (At.of ⟨rfl, trivial⟩)
 refine WL.unguard rfl rfl hg_15 ?_
 refine WL.mv rfl rfl ?_
 refine WL.unguard rfl rfl hg_15 ?_
 refine WL.run hS rfl rfl rfl (ex_geq rfl rfl) ?_
 refine WL.unguard rfl rfl hg_15 ?_
 refine WL.mv rfl rfl ?_
 rcases Bool.eq_false_or_eq_true (decide ((48 : Int) ≤ c_1)) with hg_16 | hg_16
 refine WL.unguard rfl rfl hg_16 ?_
 refine WL.mv rfl rfl ?_
 refine WL.unguard rfl rfl hg_16 ?_
 refine WL.run hS rfl rfl rfl (ex_leq rfl rfl) ?_
 refine WL.unguard rfl rfl hg_15 ?_
 refine WL.run hS rfl rfl rfl (ex_pick_t rfl hg_16 rfl) ?_
 refine WL.sub (m := [(0, .int .u8 c_1), (3, .int .u8 c_1), (4, .bool (decide ((97 : Int) ≤ c_1))), (5, .bool (decide ((97 : Int) ≤ c_1))), (6, undef), (7, undef), (8, .bool (decide (((97 : Int) ≤ c_1) ∧ (c_1 ≤ (122 : Int))))), (9, .bool (decide (((97 : Int) ≤ c_1) ∧ (c_1 ≤ (122 : Int))))), (10, .int .u8 c_1), (11, .bool (decide ((65 : Int) ≤ c_1))), (12, .bool (decide ((65 : Int) ≤ c_1))), (13, .int .u8 c_1), (14, .bool (decide (c_1 ≤ (90 : Int)))), (15, .bool (decide (((65 : Int) ≤ c_1) ∧ (c_1 ≤ (90 : Int))))), (16, .bool (decide ((((97 : Int) ≤ c_1) ∧ (c_1 ≤ (122 : Int))) ∨ (((65 : Int) ≤ c_1) ∧ (c_1 ≤ (90 : Int)))))), (17, .bool (decide ((((97 : Int) ≤ c_1) ∧ (c_1 ≤ (122 : Int))) ∨ (((65 : Int) ≤ c_1) ∧ (c_1 ≤ (90 : Int)))))), (18, .int .u8 c_1), (19, .bool (decide ((48 : Int) ≤ c_1))), (20, .bool (decide ((48 : Int) ≤ c_1))), (21, .int .u8 c_1), (22, .bool (decide (c_1 ≤ (57 : Int)))), (23, .bool (decide (((48 : Int) ≤ c_1) ∧ (c_1 ≤ (57 : Int)))))]) ⟨rfl, rfl, rfl, rfl, rfl, rfl, rfl, rfl, rfl, rfl, rfl, rfl, rfl, rfl, rfl, rfl, rfl, rfl, rfl, rfl, rfl, congrArg (fun b => some (Value.bool b)) (and_t hg_16 : decide (c_1 ≤ (57 : Int)) = decide (((48 : Int) ≤ c_1) ∧ (c_1 ≤ (57 : Int)))), trivial⟩ ?_
 refine WL.run hS rfl rfl rfl (ex_pick_f rfl hg_15 rfl) ?_
 refine WL.sub (m := [(0, .int .u8 c_1), (3, .int .u8 c_1), (4, .bool (decide ((97 : Int) ≤ c_1))), (5, .bool (decide ((97 : Int) ≤ c_1))), (6, undef), (7, undef), (8, .bool (decide (((97 : Int) ≤ c_1) ∧ (c_1 ≤ (122 : Int))))), (9, .bool (decide (((97 : Int) ≤ c_1) ∧ (c_1 ≤ (122 : Int))))), (10, .int .u8 c_1), (11, .bool (decide ((65 : Int) ≤ c_1))), (12, .bool (decide ((65 : Int) ≤ c_1))), (13, .int .u8 c_1), (14, .bool (decide (c_1 ≤ (90 : Int)))), (15, .bool (decide (((65 : Int) ≤ c_1) ∧ (c_1 ≤ (90 : Int))))), (16, .bool (decide ((((97 : Int) ≤ c_1) ∧ (c_1 ≤ (122 : Int))) ∨ (((65 : Int) ≤ c_1) ∧ (c_1 ≤ (90 : Int)))))), (17, .bool (decide ((((97 : Int) ≤ c_1) ∧ (c_1 ≤ (122 : Int))) ∨ (((65 : Int) ≤ c_1) ∧ (c_1 ≤ (90 : Int)))))), (18, .int .u8 c_1), (19, .bool (decide ((48 : Int) ≤ c_1))), (20, .bool (decide ((48 : Int) ≤ c_1))), (21, .int .u8 c_1), (22, .bool (decide (c_1 ≤ (57 : Int)))), (23, .bool (decide (((48 : Int) ≤ c_1) ∧ (c_1 ≤ (57 : Int))))), (24, .bool (decide (((((97 : Int) ≤ c_1) ∧ (c_1 ≤ (122 : Int))) ∨ (((65 : Int) ≤ c_1) ∧ (c_1 ≤ (90 : Int)))) ∨ (((48 : Int) ≤ c_1) ∧ (c_1 ≤ (57 : Int))))))]) ⟨rfl, rfl, rfl, rfl, rfl, rfl, rfl, rfl, rfl, rfl, rfl, rfl, rfl, rfl, rfl, rfl, rfl, rfl, rfl, rfl, rfl, rfl, congrArg (fun b => some (Value.bool b)) (or_f hg_15 : decide (((48 : Int) ≤ c_1) ∧ (c_1 ≤ (57 : Int))) = decide (((((97 : Int) ≤ c_1) ∧ (c_1 ≤ (122 : Int))) ∨ (((65 : Int) ≤ c_1) ∧ (c_1 ≤ (90 : Int)))) ∨ (((48 : Int) ≤ c_1) ∧ (c_1 ≤ (57 : Int))))), trivial⟩ ?_
 refine WL.mv rfl rfl ?_
 rcases Bool.eq_false_or_eq_true (decide (((((97 : Int) ≤ c_1) ∧ (c_1 ≤ (122 : Int))) ∨ (((65 : Int) ≤ c_1) ∧ (c_1 ≤ (90 : Int)))) ∨ (((48 : Int) ≤ c_1) ∧ (c_1 ≤ (57 : Int))))) with hg_17 | hg_17
 refine WL.skip_g rfl rfl rfl hg_17 rfl rfl ?_
 refine WL.skip_g rfl rfl rfl hg_17 rfl rfl ?_
 refine WL.run hS rfl rfl rfl (ex_pick_t rfl hg_17 rfl) ?_
 refine WL.sub (m := [(0, .int .u8 c_1), (3, .int .u8 c_1), (4, .bool (decide ((97 : Int) ≤ c_1))), (5, .bool (decide ((97 : Int) ≤ c_1))), (6, undef), (7, undef), (8, .bool (decide (((97 : Int) ≤ c_1) ∧ (c_1 ≤ (122 : Int))))), (9, .bool (decide (((97 : Int) ≤ c_1) ∧ (c_1 ≤ (122 : Int))))), (10, .int .u8 c_1), (11, .bool (decide ((65 : Int) ≤ c_1))), (12, .bool (decide ((65 : Int) ≤ c_1))), (13, .int .u8 c_1), (14, .bool (decide (c_1 ≤ (90 : Int)))), (15, .bool (decide (((65 : Int) ≤ c_1) ∧ (c_1 ≤ (90 : Int))))), (16, .bool (decide ((((97 : Int) ≤ c_1) ∧ (c_1 ≤ (122 : Int))) ∨ (((65 : Int) ≤ c_1) ∧ (c_1 ≤ (90 : Int)))))), (17, .bool (decide ((((97 : Int) ≤ c_1) ∧ (c_1 ≤ (122 : Int))) ∨ (((65 : Int) ≤ c_1) ∧ (c_1 ≤ (90 : Int)))))), (18, .int .u8 c_1), (19, .bool (decide ((48 : Int) ≤ c_1))), (20, .bool (decide ((48 : Int) ≤ c_1))), (21, .int .u8 c_1), (22, .bool (decide (c_1 ≤ (57 : Int)))), (23, .bool (decide (((48 : Int) ≤ c_1) ∧ (c_1 ≤ (57 : Int))))), (24, .bool (decide (((((97 : Int) ≤ c_1) ∧ (c_1 ≤ (122 : Int))) ∨ (((65 : Int) ≤ c_1) ∧ (c_1 ≤ (90 : Int)))) ∨ (((48 : Int) ≤ c_1) ∧ (c_1 ≤ (57 : Int)))))), (25, .bool (decide (((((97 : Int) ≤ c_1) ∧ (c_1 ≤ (122 : Int))) ∨ (((65 : Int) ≤ c_1) ∧ (c_1 ≤ (90 : Int)))) ∨ (((48 : Int) ≤ c_1) ∧ (c_1 ≤ (57 : Int)))))), (26, undef), (27, undef), (28, .bool (decide ((((((97 : Int) ≤ c_1) ∧ (c_1 ≤ (122 : Int))) ∨ (((65 : Int) ≤ c_1) ∧ (c_1 ≤ (90 : Int)))) ∨ (((48 : Int) ≤ c_1) ∧ (c_1 ≤ (57 : Int)))) ∨ (c_1 = (95 : Int)))))]) ⟨rfl, rfl, rfl, rfl, rfl, rfl, rfl, rfl, rfl, rfl, rfl, rfl, rfl, rfl, rfl, rfl, rfl, rfl, rfl, rfl, rfl, rfl, rfl, rfl, rfl, rfl, congrArg (fun b => some (Value.bool b)) (or_t hg_17 : true = decide ((((((97 : Int) ≤ c_1) ∧ (c_1 ≤ (122 : Int))) ∨ (((65 : Int) ≤ c_1) ∧ (c_1 ≤ (90 : Int)))) ∨ (((48 : Int) ≤ c_1) ∧ (c_1 ≤ (57 : Int)))) ∨ (c_1 = (95 : Int)))), trivial⟩ ?_
 refine WL.ma rfl rfl ?_
 exact WL.nil (At.of ⟨rfl, trivial⟩)
 refine WL.unguard rfl rfl hg_17 ?_
 refine WL.mv rfl rfl ?_
 refine WL.unguard rfl rfl hg_17 ?_
 refine WL.run hS rfl rfl rfl (ex_eql rfl rfl) ?_
 refine WL.run hS rfl rfl rfl (ex_pick_f rfl hg_17 rfl) ?_
 refine WL.sub (m := [(0, .int .u8 c_1), (3, .int .u8 c_1), (4, .bool (decide ((97 : Int) ≤ c_1))), (5, .bool (decide ((97 : Int) ≤ c_1))), (6, undef), (7, undef), (8, .bool (decide (((97 : Int) ≤ c_1) ∧ (c_1 ≤ (122 : Int))))), (9, .bool (decide (((97 : Int) ≤ c_1) ∧ (c_1 ≤ (122 : Int))))), (10, .int .u8 c_1), (11, .bool (decide ((65 : Int) ≤ c_1))), (12, .bool (decide ((65 : Int) ≤ c_1))), (13, .int .u8 c_1), (14, .bool (decide (c_1 ≤ (90 : Int)))), (15, .bool (decide (((65 : Int) ≤ c_1) ∧ (c_1 ≤ (90 : Int))))), (16, .bool (decide ((((97 : Int) ≤ c_1) ∧ (c_1 ≤ (122 : Int))) ∨ (((65 : Int) ≤ c_1) ∧ (c_1 ≤ (90 : Int)))))), (17, .bool (decide ((((97 : Int) ≤ c_1) ∧ (c_1 ≤ (122 : Int))) ∨ (((65 : Int) ≤ c_1) ∧ (c_1 ≤ (90 : Int)))))), (18, .int .u8 c_1), (19, .bool (decide ((48 : Int) ≤ c_1))), (20, .bool (decide ((48 : Int) ≤ c_1))), (21, .int .u8 c_1), (22, .bool (decide (c_1 ≤ (57 : Int)))), (23, .bool (decide (((48 : Int) ≤ c_1) ∧ (c_1 ≤ (57 : Int))))), (24, .bool (decide (((((97 : Int) ≤ c_1) ∧ (c_1 ≤ (122 : Int))) ∨ (((65 : Int) ≤ c_1) ∧ (c_1 ≤ (90 : Int)))) ∨ (((48 : Int) ≤ c_1) ∧ (c_1 ≤ (57 : Int)))))), (25, .bool (decide (((((97 : Int) ≤ c_1) ∧ (c_1 ≤ (122 : Int))) ∨ (((65 : Int) ≤ c_1) ∧ (c_1 ≤ (90 : Int)))) ∨ (((48 : Int) ≤ c_1) ∧ (c_1 ≤ (57 : Int)))))), (26, .int .u8 c_1), (27, .bool (decide (c_1 = (95 : Int)))), (28, .bool (decide ((((((97 : Int) ≤ c_1) ∧ (c_1 ≤ (122 : Int))) ∨ (((65 : Int) ≤ c_1) ∧ (c_1 ≤ (90 : Int)))) ∨ (((48 : Int) ≤ c_1) ∧ (c_1 ≤ (57 : Int)))) ∨ (c_1 = (95 : Int)))))]) ⟨rfl, rfl, rfl, rfl, rfl, rfl, rfl, rfl, rfl, rfl, rfl, rfl, rfl, rfl, rfl, rfl, rfl, rfl, rfl, rfl, rfl, rfl, rfl, rfl, rfl, rfl, congrArg (fun b => some (Value.bool b)) (or_f hg_17 : decide (c_1 = (95 : Int)) = decide ((((((97 : Int) ≤ c_1) ∧ (c_1 ≤ (122 : Int))) ∨ (((65 : Int) ≤ c_1) ∧ (c_1 ≤ (90 : Int)))) ∨ (((48 : Int) ≤ c_1) ∧ (c_1 ≤ (57 : Int)))) ∨ (c_1 = (95 : Int)))), trivial⟩ ?_
 refine WL.ma rfl rfl ?_
 exact WL.nil (At.of ⟨rfl, trivial⟩)
 refine WL.skip_g rfl rfl rfl hg_16 rfl rfl ?_
 refine WL.skip_g rfl rfl rfl hg_16 rfl rfl ?_
 refine WL.unguard rfl rfl hg_15 ?_
 refine WL.run hS rfl rfl rfl (ex_pick_f rfl hg_16 rfl) ?_
 refine WL.sub (m := [(0, .int .u8 c_1), (3, .int .u8 c_1), (4, .bool (decide ((97 : Int) ≤ c_1))), (5, .bool (decide ((97 : Int) ≤ c_1))), (6, undef), (7, undef), (8, .bool (decide (((97 : Int) ≤ c_1) ∧ (c_1 ≤ (122 : Int))))), (9, .bool (decide (((97 : Int) ≤ c_1) ∧ (c_1 ≤ (122 : Int))))), (10, .int .u8 c_1), (11, .bool (decide ((65 : Int) ≤ c_1))), (12, .bool (decide ((65 : Int) ≤ c_1))), (13, .int .u8 c_1), (14, .bool (decide (c_1 ≤ (90 : Int)))), (15, .bool (decide (((65 : Int) ≤ c_1) ∧ (c_1 ≤ (90 : Int))))), (16, .bool (decide ((((97 : Int) ≤ c_1) ∧ (c_1 ≤ (122 : Int))) ∨ (((65 : Int) ≤ c_1) ∧ (c_1 ≤ (90 : Int)))))), (17, .bool (decide ((((97 : Int) ≤ c_1) ∧ (c_1 ≤ (122 : Int))) ∨ (((65 : Int) ≤ c_1) ∧ (c_1 ≤ (90 : Int)))))), (18, .int .u8 c_1), (19, .bool (decide ((48 : Int) ≤ c_1))), (20, .bool (decide ((48 : Int) ≤ c_1))), (21, undef), (22, undef), (23, .bool (decide (((48 : Int) ≤ c_1) ∧ (c_1 ≤ (57 : Int)))))]) ⟨rfl, rfl, rfl, rfl, rfl, rfl, rfl, rfl, rfl, rfl, rfl, rfl, rfl, rfl, rfl, rfl, rfl, rfl, rfl, rfl, rfl, congrArg (fun b => some (Value.bool b)) (and_f hg_16 : false = decide (((48 : Int) ≤ c_1) ∧ (c_1 ≤ (57 : Int)))), trivial⟩ ?_
 refine WL.run hS rfl rfl rfl (ex_pick_f rfl hg_15 rfl) ?_
 refine WL.sub (m := [(0, .int .u8 c_1), (3, .int .u8 c_1), (4, .bool (decide ((97 : Int) ≤ c_1))), (5, .bool (decide ((97 : Int) ≤ c_1))), (6, undef), (7, undef), (8, .bool (decide (((97 : Int) ≤ c_1) ∧ (c_1 ≤ (122 : Int))))), (9, .bool (decide (((97 : Int) ≤ c_1) ∧ (c_1 ≤ (122 : Int))))), (10, .int .u8 c_1), (11, .bool (decide ((65 : Int) ≤ c_1))), (12, .bool (decide ((65 : Int) ≤ c_1))), (13, .int .u8 c_1), (14, .bool (decide (c_1 ≤ (90 : Int)))), (15, .bool (decide (((65 : Int) ≤ c_1) ∧ (c_1 ≤ (90 : Int))))), (16, .bool (decide ((((97 : Int) ≤ c_1) ∧ (c_1 ≤ (122 : Int))) ∨ (((65 : Int) ≤ c_1) ∧ (c_1 ≤ (90 : Int)))))), (17, .bool (decide ((((97 : Int) ≤ c_1) ∧ (c_1 ≤ (122 : Int))) ∨ (((65 : Int) ≤ c_1) ∧ (c_1 ≤ (90 : Int)))))), (18, .int .u8 c_1), (19, .bool (decide ((48 : Int) ≤ c_1))), (20, .bool (decide ((48 : Int) ≤ c_1))), (21, undef), (22, undef), (23, .bool (decide (((48 : Int) ≤ c_1) ∧ (c_1 ≤ (57 : Int))))), (24, .bool (decide (((((97 : Int) ≤ c_1) ∧ (c_1 ≤ (122 : Int))) ∨ (((65 : Int) ≤ c_1) ∧ (c_1 ≤ (90 : Int)))) ∨ (((48 : Int) ≤ c_1) ∧ (c_1 ≤ (57 : Int))))))]) ⟨rfl, rfl, rfl, rfl, rfl, rfl, rfl, rfl, rfl, rfl, rfl, rfl, rfl, rfl, rfl, rfl, rfl, rfl, rfl, rfl, rfl, rfl, congrArg (fun b => some (Value.bool b)) (or_f hg_15 : decide (((48 : Int) ≤ c_1) ∧ (c_1 ≤ (57 : Int))) = decide (((((97 : Int) ≤ c_1) ∧ (c_1 ≤ (122 : Int))) ∨ (((65 : Int) ≤ c_1) ∧ (c_1 ≤ (90 : Int)))) ∨ (((48 : Int) ≤ c_1) ∧ (c_1 ≤ (57 : Int))))), trivial⟩ ?_
 refine WL.mv rfl rfl ?_
 rcases Bool.eq_false_or_eq_true (decide (((((97 : Int) ≤ c_1) ∧ (c_1 ≤ (122 : Int))) ∨ (((65 : Int) ≤ c_1) ∧ (c_1 ≤ (90 : Int)))) ∨ (((48 : Int) ≤ c_1) ∧ (c_1 ≤ (57 : Int))))) with hg_18 | hg_18
 refine WL.skip_g rfl rfl rfl hg_18 rfl rfl ?_
 refine WL.skip_g rfl rfl rfl hg_18 rfl rfl ?_
 refine WL.run hS rfl rfl rfl (ex_pick_t rfl hg_18 rfl) ?_
 refine WL.sub (m := [(0, .int .u8 c_1), (3, .int .u8 c_1), (4, .bool (decide ((97 : Int) ≤ c_1))), (5, .bool (decide ((97 : Int) ≤ c_1))), (6, undef), (7, undef), (8, .bool (decide (((97 : Int) ≤ c_1) ∧ (c_1 ≤ (122 : Int))))), (9, .bool (decide (((97 : Int) ≤ c_1) ∧ (c_1 ≤ (122 : Int))))), (10, .int .u8 c_1), (11, .bool (decide ((65 : Int) ≤ c_1))), (12, .bool (decide ((65 : Int) ≤ c_1))), (13, .int .u8 c_1), (14, .bool (decide (c_1 ≤ (90 : Int)))), (15, .bool (decide (((65 : Int) ≤ c_1) ∧ (c_1 ≤ (90 : Int))))), (16, .bool (decide ((((97 : Int) ≤ c_1) ∧ (c_1 ≤ (122 : Int))) ∨ (((65 : Int) ≤ c_1) ∧ (c_1 ≤ (90 : Int)))))), (17, .bool (decide ((((97 : Int) ≤ c_1) ∧ (c_1 ≤ (122 : Int))) ∨ (((65 : Int) ≤ c_1) ∧ (c_1 ≤ (90 : Int)))))), (18, .int .u8 c_1), (19, .bool (decide ((48 : Int) ≤ c_1))), (20, .bool (decide ((48 : Int) ≤ c_1))), (21, undef), (22, undef), (23, .bool (decide (((48 : Int) ≤ c_1) ∧ (c_1 ≤ (57 : Int))))), (24, .bool (decide (((((97 : Int) ≤ c_1) ∧ (c_1 ≤ (122 : Int))) ∨ (((65 : Int) ≤ c_1) ∧ (c_1 ≤ (90 : Int)))) ∨ (((48 : Int) ≤ c_1) ∧ (c_1 ≤ (57 : Int)))))), (25, .bool (decide (((((97 : Int) ≤ c_1) ∧ (c_1 ≤ (122 : Int))) ∨ (((65 : Int) ≤ c_1) ∧ (c_1 ≤ (90 : Int)))) ∨ (((48 : Int) ≤ c_1) ∧ (c_1 ≤ (57 : Int)))))), (26, undef), (27, undef), (28, .bool (decide ((((((97 : Int) ≤ c_1) ∧ (c_1 ≤ (122 : Int))) ∨ (((65 : Int) ≤ c_1) ∧ (c_1 ≤ (90 : Int)))) ∨ (((48 : Int) ≤ c_1) ∧ (c_1 ≤ (57 : Int)))) ∨ (c_1 = (95 : Int)))))]) ⟨rfl, rfl, rfl, rfl, rfl, rfl, rfl, rfl, rfl, rfl, rfl, rfl, rfl, rfl, rfl, rfl, rfl, rfl, rfl, rfl, rfl, rfl, rfl, rfl, rfl, rfl, congrArg (fun b => some (Value.bool b)) (or_t hg_18 : true = decide ((((((97 : Int) ≤ c_1) ∧ (c_1 ≤ (122 : Int))) ∨ (((65 : Int) ≤ c_1) ∧ (c_1 ≤ (90 : Int)))) ∨ (((48 : Int) ≤ c_1) ∧ (c_1 ≤ (57 : Int)))) ∨ (c_1 = (95 : Int)))), trivial⟩ ?_
 refine WL.ma rfl rfl ?_
 exact WL.nil (At.of ⟨rfl, trivial⟩)
 refine WL.unguard rfl rfl hg_18 ?_
 refine WL.mv rfl rfl ?_
 refine WL.unguard rfl rfl hg_18 ?_
 refine WL.run hS rfl rfl rfl (ex_eql rfl rfl) ?_
 refine WL.run hS rfl rfl rfl (ex_pick_f rfl hg_18 rfl) ?_
 refine WL.sub (m := [(0, .int .u8 c_1), (3, .int .u8 c_1), (4, .bool (decide ((97 : Int) ≤ c_1))), (5, .bool (decide ((97 : Int) ≤ c_1))), (6, undef), (7, undef), (8, .bool (decide (((97 : Int) ≤ c_1) ∧ (c_1 ≤ (122 : Int))))), (9, .bool (decide (((97 : Int) ≤ c_1) ∧ (c_1 ≤ (122 : Int))))), (10, .int .u8 c_1), (11, .bool (decide ((65 : Int) ≤ c_1))), (12, .bool (decide ((65 : Int) ≤ c_1))), (13, .int .u8 c_1), (14, .bool (decide (c_1 ≤ (90 : Int)))), (15, .bool (decide (((65 : Int) ≤ c_1) ∧ (c_1 ≤ (90 : Int))))), (16, .bool (decide ((((97 : Int) ≤ c_1) ∧ (c_1 ≤ (122 : Int))) ∨ (((65 : Int) ≤ c_1) ∧ (c_1 ≤ (90 : Int)))))), (17, .bool (decide ((((97 : Int) ≤ c_1) ∧ (c_1 ≤ (122 : Int))) ∨ (((65 : Int) ≤ c_1) ∧ (c_1 ≤ (90 : Int)))))), (18, .int .u8 c_1), (19, .bool (decide ((48 : Int) ≤ c_1))), (20, .bool (decide ((48 : Int) ≤ c_1))), (21, undef), (22, undef), (23, .bool (decide (((48 : Int) ≤ c_1) ∧ (c_1 ≤ (57 : Int))))), (24, .bool (decide (((((97 : Int) ≤ c_1) ∧ (c_1 ≤ (122 : Int))) ∨ (((65 : Int) ≤ c_1) ∧ (c_1 ≤ (90 : Int)))) ∨ (((48 : Int) ≤ c_1) ∧ (c_1 ≤ (57 : Int)))))), (25, .bool (decide (((((97 : Int) ≤ c_1) ∧ (c_1 ≤ (122 : Int))) ∨ (((65 : Int) ≤ c_1) ∧ (c_1 ≤ (90 : Int)))) ∨ (((48 : Int) ≤ c_1) ∧ (c_1 ≤ (57 : Int)))))), (26, .int .u8 c_1), (27, .bool (decide (c_1 = (95 : Int)))), (28, .bool (decide ((((((97 : Int) ≤ c_1) ∧ (c_1 ≤ (122 : Int))) ∨ (((65 : Int) ≤ c_1) ∧ (c_1 ≤ (90 : Int)))) ∨ (((48 : Int) ≤ c_1) ∧ (c_1 ≤ (57 : Int)))) ∨ (c_1 = (95 : Int)))))]) ⟨rfl, rfl, rfl, rfl, rfl, rfl, rfl, rfl, rfl, rfl, rfl, rfl, rfl, rfl, rfl, rfl, rfl, rfl, rfl, rfl, rfl, rfl, rfl, rfl, rfl, rfl, congrArg (fun b => some (Value.bool b)) (or_f hg_18 : decide (c_1 = (95 : Int)) = decide ((((((97 : Int) ≤ c_1) ∧ (c_1 ≤ (122 : Int))) ∨ (((65 : Int) ≤ c_1) ∧ (c_1 ≤ (90 : Int)))) ∨ (((48 : Int) ≤ c_1) ∧ (c_1 ≤ (57 : Int)))) ∨ (c_1 = (95 : Int)))), trivial⟩ ?_
 refine WL.ma rfl rfl ?_
 exact WL.nil (At.of ⟨rfl, trivial⟩)
 refine WL.skip_g rfl rfl rfl hg_14 rfl rfl ?_
 refine WL.skip_g rfl rfl rfl hg_14 rfl rfl ?_
 refine WL.unguard rfl rfl (and_f hg_3).symm ?_
 refine WL.run hS rfl rfl rfl (ex_pick_f rfl hg_14 rfl) ?_
 refine WL.sub (m := [(0, .int .u8 c_1), (3, .int .u8 c_1), (4, .bool (decide ((97 : Int) ≤ c_1))), (5, .bool (decide ((97 : Int) ≤ c_1))), (6, undef), (7, undef), (8, .bool (decide (((97 : Int) ≤ c_1) ∧ (c_1 ≤ (122 : Int))))), (9, .bool (decide (((97 : Int) ≤ c_1) ∧ (c_1 ≤ (122 : Int))))), (10, .int .u8 c_1), (11, .bool (decide ((65 : Int) ≤ c_1))), (12, .bool (decide ((65 : Int) ≤ c_1))), (13, undef), (14, undef), (15, .bool (decide (((65 : Int) ≤ c_1) ∧ (c_1 ≤ (90 : Int)))))]) ⟨rfl, rfl, rfl, rfl, rfl, rfl, rfl, rfl, rfl, rfl, rfl, rfl, rfl, congrArg (fun b => some (Value.bool b)) (and_f hg_14 : false = decide (((65 : Int) ≤ c_1) ∧ (c_1 ≤ (90 : Int)))), trivial⟩ ?_
 refine WL.run hS rfl rfl rfl (ex_pick_f rfl (and_f hg_3).symm rfl) ?_
 refine WL.sub (m := [(0, .int .u8 c_1), (3, .int .u8 c_1), (4, .bool (decide ((97 : Int) ≤ c_1))), (5, .bool (decide ((97 : Int) ≤ c_1))), (6, undef), (7, undef), (8, .bool (decide (((97 : Int) ≤ c_1) ∧ (c_1 ≤ (122 : Int))))), (9, .bool (decide (((97 : Int) ≤ c_1) ∧ (c_1 ≤ (122 : Int))))), (10, .int .u8 c_1), (11, .bool (decide ((65 : Int) ≤ c_1))), (12, .bool (decide ((65 : Int) ≤ c_1))), (13, undef), (14, undef), (15, .bool (decide (((65 : Int) ≤ c_1) ∧ (c_1 ≤ (90 : Int))))), (16, .bool (decide ((((97 : Int) ≤ c_1) ∧ (c_1 ≤ (122 : Int))) ∨ (((65 : Int) ≤ c_1) ∧ (c_1 ≤ (90 : Int))))))]) ⟨rfl, rfl, rfl, rfl, rfl, rfl, rfl, rfl, rfl, rfl, rfl, rfl, rfl, rfl, congrArg (fun b => some (Value.bool b)) (or_f (and_f hg_3).symm : decide (((65 : Int) ≤ c_1) ∧ (c_1 ≤ (90 : Int))) = decide ((((97 : Int) ≤ c_1) ∧ (c_1 ≤ (122 : Int))) ∨ (((65 : Int) ≤ c_1) ∧ (c_1 ≤ (90 : Int))))), trivial⟩ ?_
 refine WL.mv rfl rfl ?_
 rcases Bool.eq_false_or_eq_true (decide ((((97 : Int) ≤ c_1) ∧ (c_1 ≤ (122 : Int))) ∨ (((65 : Int) ≤ c_1) ∧ (c_1 ≤ (90 : Int))))) with hg_19 | hg_19
 refine WL.skip_g rfl rfl rfl hg_19 rfl rfl ?_
 refine WL.skip_g rfl rfl rfl hg_19 rfl rfl ?_
 refine WL.skip_g rfl rfl rfl hg_19 rfl rfl ?_
 refine WL.skip_u rfl rfl rfl rfl rfl ?_
 refine WL.skip_u rfl rfl rfl rfl rfl ?_
 refine WL.skip_g rfl rfl rfl hg_19 rfl rfl ?_
 refine WL.run hS rfl rfl rfl (ex_pick_t rfl hg_19 rfl) ?_
 refine WL.sub (m := [(0, .int .u8 c_1), (3, .int .u8 c_1), (4, .bool (decide ((97 : Int) ≤ c_1))), (5, .bool (decide ((97 : Int) ≤ c_1))), (6, undef), (7, undef), (8, .bool (decide (((97 : Int) ≤ c_1) ∧ (c_1 ≤ (122 : Int))))), (9, .bool (decide (((97 : Int) ≤ c_1) ∧ (c_1 ≤ (122 : Int))))), (10, .int .u8 c_1), (11, .bool (decide ((65 : Int) ≤ c_1))), (12, .bool (decide ((65 : Int) ≤ c_1))), (13, undef), (14, undef), (15, .bool (decide (((65 : Int) ≤ c_1) ∧ (c_1 ≤ (90 : Int))))), (16, .bool (decide ((((97 : Int) ≤ c_1) ∧ (c_1 ≤ (122 : Int))) ∨ (((65 : Int) ≤ c_1) ∧ (c_1 ≤ (90 : Int)))))), (17, .bool (decide ((((97 : Int) ≤ c_1) ∧ (c_1 ≤ (122 : Int))) ∨ (((65 : Int) ≤ c_1) ∧ (c_1 ≤ (90 : Int)))))), (18, undef), (19, undef), (20, undef), (21, undef), (22, undef), (23, undef), (24, .bool (decide (((((97 : Int) ≤ c_1) ∧ (c_1 ≤ (122 : Int))) ∨ (((65 : Int) ≤ c_1) ∧ (c_1 ≤ (90 : Int)))) ∨ (((48 : Int) ≤ c_1) ∧ (c_1 ≤ (57 : Int))))))]) ⟨rfl, rfl, rfl, rfl, rfl, rfl, rfl, rfl, rfl, rfl, rfl, rfl, rfl, rfl, rfl, rfl, rfl, rfl, rfl, rfl, rfl, rfl, congrArg (fun b => some (Value.bool b)) (or_t hg_19 : true = decide (((((97 : Int) ≤ c_1) ∧ (c_1 ≤ (122 : Int))) ∨ (((65 : Int) ≤ c_1) ∧ (c_1 ≤ (90 : Int)))) ∨ (((48 : Int) ≤ c_1) ∧ (c_1 ≤ (57 : Int))))), trivial⟩ ?_
 refine WL.mv rfl rfl ?_
 refine WL.skip_g rfl rfl rfl (or_t hg_19).symm rfl rfl ?_
 refine WL.skip_g rfl rfl rfl (or_t hg_19).symm rfl rfl ?_
 refine WL.run hS rfl rfl rfl (ex_pick_t rfl (or_t hg_19).symm rfl) ?_
 refine WL.sub (m := [(0, .int .u8 c_1), (3, .int .u8 c_1), (4, .bool (decide ((97 : Int) ≤ c_1))), (5, .bool (decide ((97 : Int) ≤ c_1))), (6, undef), (7, undef), (8, .bool (decide (((97 : Int) ≤ c_1) ∧ (c_1 ≤ (122 : Int))))), (9, .bool (decide (((97 : Int) ≤ c_1) ∧ (c_1 ≤ (122 : Int))))), (10, .int .u8 c_1), (11, .bool (decide ((65 : Int) ≤ c_1))), (12, .bool (decide ((65 : Int) ≤ c_1))), (13, undef), (14, undef), (15, .bool (decide (((65 : Int) ≤ c_1) ∧ (c_1 ≤ (90 : Int))))), (16, .bool (decide ((((97 : Int) ≤ c_1) ∧ (c_1 ≤ (122 : Int))) ∨ (((65 : Int) ≤ c_1) ∧ (c_1 ≤ (90 : Int)))))), (17, .bool (decide ((((97 : Int) ≤ c_1) ∧ (c_1 ≤ (122 : Int))) ∨ (((65 : Int) ≤ c_1) ∧ (c_1 ≤ (90 : Int)))))), (18, undef), (19, undef), (20, undef), (21, undef), (22, undef), (23, undef), (24, .bool (decide (((((97 : Int) ≤ c_1) ∧ (c_1 ≤ (122 : Int))) ∨ (((65 : Int) ≤ c_1) ∧ (c_1 ≤ (90 : Int)))) ∨ (((48 : Int) ≤ c_1) ∧ (c_1 ≤ (57 : Int)))))), (25, .bool (decide (((((97 : Int) ≤ c_1) ∧ (c_1 ≤ (122 : Int))) ∨ (((65 : Int) ≤ c_1) ∧ (c_1 ≤ (90 : Int)))) ∨ (((48 : Int) ≤ c_1) ∧ (c_1 ≤ (57 : Int)))))), (26, undef), (27, undef), (28, .bool (decide ((((((97 : Int) ≤ c_1) ∧ (c_1 ≤ (122 : Int))) ∨ (((65 : Int) ≤ c_1) ∧ (c_1 ≤ (90 : Int)))) ∨ (((48 : Int) ≤ c_1) ∧ (c_1 ≤ (57 : Int)))) ∨ (c_1 = (95 : Int)))))]) ⟨rfl, rfl, rfl, rfl, rfl, rfl, rfl, rfl, rfl, rfl, rfl, rfl, rfl, rfl, rfl, rfl, rfl, rfl, rfl, rfl, rfl, rfl, rfl, rfl, rfl, rfl, congrArg (fun b => some (Value.bool b)) (or_t (or_t hg_19).symm : true = decide ((((((97 : Int) ≤ c_1) ∧ (c_1 ≤ (122 : Int))) ∨ (((65 : Int) ≤ c_1) ∧ (c_1 ≤ (90 : Int)))) ∨ (((48 : Int) ≤ c_1) ∧ (c_1 ≤ (57 : Int)))) ∨ (c_1 = (95 : Int)))), trivial⟩ ?_
 refine WL.ma rfl rfl ?_
 exact WL.nil (At.of ⟨rfl, trivial⟩)
 refine WL.unguard rfl rfl hg_19 ?_
 refine WL.mv rfl rfl ?_
 refine WL.unguard rfl rfl hg_19 ?_
 refine WL.run hS rfl rfl rfl (ex_geq rfl rfl) ?_
 refine WL.unguard rfl rfl hg_19 ?_
 refine WL.mv rfl rfl ?_
 rcases Bool.eq_false_or_eq_true (decide ((48 : Int) ≤ c_1)) with hg_20 | hg_20
 refine WL.unguard rfl rfl hg_20 ?_
 refine WL.mv rfl rfl ?_
 refine WL.unguard rfl rfl hg_20 ?_
 refine WL.run hS rfl rfl rfl (ex_leq rfl rfl) ?_
 refine WL.unguard rfl rfl hg_19 ?_
 refine WL.run hS rfl rfl rfl (ex_pick_t rfl hg_20 rfl) ?_
 refine WL.sub (m := [(0, .int .u8 c_1), (3, .int .u8 c_1), (4, .bool (decide ((97 : Int) ≤ c_1))), (5, .bool (decide ((97 : Int) ≤ c_1))), (6, undef), (7, undef), (8, .bool (decide (((97 : Int) ≤ c_1) ∧ (c_1 ≤ (122 : Int))))), (9, .bool (decide (((97 : Int) ≤ c_1) ∧ (c_1 ≤ (122 : Int))))), (10, .int .u8 c_1), (11, .bool (decide ((65 : Int) ≤ c_1))), (12, .bool (decide ((65 : Int) ≤ c_1))), (13, undef), (14, undef), (15, .bool (decide (((65 : Int) ≤ c_1) ∧ (c_1 ≤ (90 : Int))))), (16, .bool (decide ((((97 : Int) ≤ c_1) ∧ (c_1 ≤ (122 : Int))) ∨ (((65 : Int) ≤ c_1) ∧ (c_1 ≤ (90 : Int)))))), (17, .bool (decide ((((97 : Int) ≤ c_1) ∧ (c_1 ≤ (122 : Int))) ∨ (((65 : Int) ≤ c_1) ∧ (c_1 ≤ (90 : Int)))))), (18, .int .u8 c_1), (19, .bool (decide ((48 : Int) ≤ c_1))), (20, .bool (decide ((48 : Int) ≤ c_1))), (21, .int .u8 c_1), (22, .bool (decide (c_1 ≤ (57 : Int)))), (23, .bool (decide (((48 : Int) ≤ c_1) ∧ (c_1 ≤ (57 : Int)))))]) ⟨rfl, rfl, rfl, rfl, rfl, rfl, rfl, rfl, rfl, rfl, rfl, rfl, rfl, rfl, rfl, rfl, rfl, rfl, rfl, rfl, rfl, congrArg (fun b => some (Value.bool b)) (and_t hg_20 : decide (c_1 ≤ (57 : Int)) = decide (((48 : Int) ≤ c_1) ∧ (c_1 ≤ (57 : Int)))), trivial⟩ ?_
 refine WL.run hS rfl rfl rfl (ex_pick_f rfl hg_19 rfl) ?_
 refine WL.sub (m := [(0, .int .u8 c_1), (3, .int .u8 c_1), (4, .bool (decide ((97 : Int) ≤ c_1))), (5, .bool (decide ((97 : Int) ≤ c_1))), (6, undef), (7, undef), (8, .bool (decide (((97 : Int) ≤ c_1) ∧ (c_1 ≤ (122 : Int))))), (9, .bool (decide (((97 : Int) ≤ c_1) ∧ (c_1 ≤ (122 : Int))))), (10, .int .u8 c_1), (11, .bool (decide ((65 : Int) ≤ c_1))), (12, .bool (decide ((65 : Int) ≤ c_1))), (13, undef), (14, undef), (15, .bool (decide (((65 : Int) ≤ c_1) ∧ (c_1 ≤ (90 : Int))))), (16, .bool (decide ((((97 : Int) ≤ c_1) ∧ (c_1 ≤ (122 : Int))) ∨ (((65 : Int) ≤ c_1) ∧ (c_1 ≤ (90 : Int)))))), (17, .bool (decide ((((97 : Int) ≤ c_1) ∧ (c_1 ≤ (122 : Int))) ∨ (((65 : Int) ≤ c_1) ∧ (c_1 ≤ (90 : Int)))))), (18, .int .u8 c_1), (19, .bool (decide ((48 : Int) ≤ c_1))), (20, .bool (decide ((48 : Int) ≤ c_1))), (21, .int .u8 c_1), (22, .bool (decide (c_1 ≤ (57 : Int)))), (23, .bool (decide (((48 : Int) ≤ c_1) ∧ (c_1 ≤ (57 : Int))))), (24, .bool (decide (((((97 : Int) ≤ c_1) ∧ (c_1 ≤ (122 : Int))) ∨ (((65 : Int) ≤ c_1) ∧ (c_1 ≤ (90 : Int)))) ∨ (((48 : Int) ≤ c_1) ∧ (c_1 ≤ (57 : Int))))))]) ⟨rfl, rfl, rfl, rfl, rfl, rfl, rfl, rfl, rfl, rfl, rfl, rfl, rfl, rfl, rfl, rfl, rfl, rfl, rfl, rfl, rfl, rfl, congrArg (fun b => some (Value.bool b)) (or_f hg_19 : decide (((48 : Int) ≤ c_1) ∧ (c_1 ≤ (57 : Int))) = decide (((((97 : Int) ≤ c_1) ∧ (c_1 ≤ (122 : Int))) ∨ (((65 : Int) ≤ c_1) ∧ (c_1 ≤ (90 : Int)))) ∨ (((48 : Int) ≤ c_1) ∧ (c_1 ≤ (57 : Int))))), trivial⟩ ?_
 refine WL.mv rfl rfl ?_
 rcases Bool.eq_false_or_eq_true (decide (((((97 : Int) ≤ c_1) ∧ (c_1 ≤ (122 : Int))) ∨ (((65 : Int) ≤ c_1) ∧ (c_1 ≤ (90 : Int)))) ∨ (((48 : Int) ≤ c_1) ∧ (c_1 ≤ (57 : Int))))) with hg_21 | hg_21
 refine WL.skip_g rfl rfl rfl hg_21 rfl rfl ?_
 refine WL.skip_g rfl rfl rfl hg_21 rfl rfl ?_
 refine WL.run hS rfl rfl rfl (ex_pick_t rfl hg_21 rfl) ?_
 refine WL.sub (m := [(0, .int .u8 c_1), (3, .int .u8 c_1), (4, .bool (decide ((97 : Int) ≤ c_1))), (5, .bool (decide ((97 : Int) ≤ c_1))), (6, undef), (7, undef), (8, .bool (decide (((97 : Int) ≤ c_1) ∧ (c_1 ≤ (122 : Int))))), (9, .bool (decide (((97 : Int) ≤ c_1) ∧ (c_1 ≤ (122 : Int))))), (10, .int .u8 c_1), (11, .bool (decide ((65 : Int) ≤ c_1))), (12, .bool (decide ((65 : Int) ≤ c_1))), (13, undef), (14, undef), (15, .bool (decide (((65 : Int) ≤ c_1) ∧ (c_1 ≤ (90 : Int))))), (16, .bool (decide ((((97 : Int) ≤ c_1) ∧ (c_1 ≤ (122 : Int))) ∨ (((65 : Int) ≤ c_1) ∧ (c_1 ≤ (90 : Int)))))), (17, .bool (decide ((((97 : Int) ≤ c_1) ∧ (c_1 ≤ (122 : Int))) ∨ (((65 : Int) ≤ c_1) ∧ (c_1 ≤ (90 : Int)))))), (18, .int .u8 c_1), (19, .bool (decide ((48 : Int) ≤ c_1))), (20, .bool (decide ((48 : Int) ≤ c_1))), (21, .int .u8 c_1), (22, .bool (decide (c_1 ≤ (57 : Int)))), (23, .bool (decide (((48 : Int) ≤ c_1) ∧ (c_1 ≤ (57 : Int))))), (24, .bool (decide (((((97 : Int) ≤ c_1) ∧ (c_1 ≤ (122 : Int))) ∨ (((65 : Int) ≤ c_1) ∧ (c_1 ≤ (90 : Int)))) ∨ (((48 : Int) ≤ c_1) ∧ (c_1 ≤ (57 : Int)))))), (25, .bool (decide (((((97 : Int) ≤ c_1) ∧ (c_1 ≤ (122 : Int))) ∨ (((65 : Int) ≤ c_1) ∧ (c_1 ≤ (90 : Int)))) ∨ (((48 : Int) ≤ c_1) ∧ (c_1 ≤ (57 : Int)))))), (26, undef), (27, undef), (28, .bool (decide ((((((97 : Int) ≤ c_1) ∧ (c_1 ≤ (122 : Int))) ∨ (((65 : Int) ≤ c_1) ∧ (c_1 ≤ (90 : Int)))) ∨ (((48 : Int) ≤ c_1) ∧ (c_1 ≤ (57 : Int)))) ∨ (c_1 = (95 : Int)))))]) ⟨rfl, rfl, rfl, rfl, rfl, rfl, rfl, rfl, rfl, rfl, rfl, rfl, rfl, rfl, rfl, rfl, rfl, rfl, rfl, rfl, rfl, rfl, rfl, rfl, rfl, rfl, congrArg (fun b => some (Value.bool b)) (or_t hg_21 : true = decide ((((((97 : Int) ≤ c_1) ∧ (c_1 ≤ (122 : Int))) ∨ (((65 : Int) ≤ c_1) ∧ (c_1 ≤ (90 : Int)))) ∨ (((48 : Int) ≤ c_1) ∧ (c_1 ≤ (57 : Int)))) ∨ (c_1 = (95 : Int)))), trivial⟩ ?_
 refine WL.ma rfl rfl ?_
 exact WL.nil (At.of ⟨rfl, trivial⟩)
 refine WL.unguard rfl rfl hg_21 ?_
 refine WL.mv rfl rfl ?_
 refine WL.unguard rfl rfl hg_21 ?_
 refine WL.run hS rfl rfl rfl (ex_eql rfl rfl) ?_
 refine WL.run hS rfl rfl rfl (ex_pick_f rfl hg_21 rfl) ?_
 refine WL.sub (m := [(0, .int .u8 c_1), (3, .int .u8 c_1), (4, .bool (decide ((97 : Int) ≤ c_1))), (5, .bool (decide ((97 : Int) ≤ c_1))), (6, undef), (7, undef), (8, .bool (decide (((97 : Int) ≤ c_1) ∧ (c_1 ≤ (122 : Int))))), (9, .bool (decide (((97 : Int) ≤ c_1) ∧ (c_1 ≤ (122 : Int))))), (10, .int .u8 c_1), (11, .bool (decide ((65 : Int) ≤ c_1))), (12, .bool (decide ((65 : Int) ≤ c_1))), (13, undef), (14, undef), (15, .bool (decide (((65 : Int) ≤ c_1) ∧ (c_1 ≤ (90 : Int))))), (16, .bool (decide ((((97 : Int) ≤ c_1) ∧ (c_1 ≤ (122 : Int))) ∨ (((65 : Int) ≤ c_1) ∧ (c_1 ≤ (90 : Int)))))), (17, .bool (decide ((((97 : Int) ≤ c_1) ∧ (c_1 ≤ (122 : Int))) ∨ (((65 : Int) ≤ c_1) ∧ (c_1 ≤ (90 : Int)))))), (18, .int .u8 c_1), (19, .bool (decide ((48 : Int) ≤ c_1))), (20, .bool (decide ((48 : Int) ≤ c_1))), (21, .int .u8 c_1), (22, .bool (decide (c_1 ≤ (57 : Int)))), (23, .bool (decide (((48 : Int) ≤ c_1) ∧ (c_1 ≤ (57 : Int))))), (24, .bool (decide (((((97 : Int) ≤ c_1) ∧ (c_1 ≤ (122 : Int))) ∨ (((65 : Int) ≤ c_1) ∧ (c_1 ≤ (90 : Int)))) ∨ (((48 : Int) ≤ c_1) ∧ (c_1 ≤ (57 : Int)))))), (25, .bool (decide (((((97 : Int) ≤ c_1) ∧ (c_1 ≤ (122 : Int))) ∨ (((65 : Int) ≤ c_1) ∧ (c_1 ≤ (90 : Int)))) ∨ (((48 : Int) ≤ c_1) ∧ (c_1 ≤ (57 : Int)))))), (26, .int .u8 c_1), (27, .bool (decide (c_1 = (95 : Int)))), (28, .bool (decide ((((((97 : Int) ≤ c_1) ∧ (c_1 ≤ (122 : Int))) ∨ (((65 : Int) ≤ c_1) ∧ (c_1 ≤ (90 : Int)))) ∨ (((48 : Int) ≤ c_1) ∧ (c_1 ≤ (57 : Int)))) ∨ (c_1 = (95 : Int)))))]) ⟨rfl, rfl, rfl, rfl, rfl, rfl, rfl, rfl, rfl, rfl, rfl, rfl, rfl, rfl, rfl, rfl, rfl, rfl, rfl, rfl, rfl, rfl, rfl, rfl, rfl, rfl, congrArg (fun b => some (Value.bool b)) (or_f hg_21 : decide (c_1 = (95 : Int)) = decide ((((((97 : Int) ≤ c_1) ∧ (c_1 ≤ (122 : Int))) ∨ (((65 : Int) ≤ c_1) ∧ (c_1 ≤ (90 : Int)))) ∨ (((48 : Int) ≤ c_1) ∧ (c_1 ≤ (57 : Int)))) ∨ (c_1 = (95 : Int)))), trivial⟩ ?_
 refine WL.ma rfl rfl ?_
 exact WL.nil (At.of ⟨rfl, trivial⟩)
 refine WL.skip_g rfl rfl rfl hg_20 rfl rfl ?_
 refine WL.skip_g rfl rfl rfl hg_20 rfl rfl ?_
 refine WL.unguard rfl rfl hg_19 ?_
 refine WL.run hS rfl rfl rfl (ex_pick_f rfl hg_20 rfl) ?_
 refine WL.sub (m := [(0, .int .u8 c_1), (3, .int .u8 c_1), (4, .bool (decide ((97 : Int) ≤ c_1))), (5, .bool (decide ((97 : Int) ≤ c_1))), (6, undef), (7, undef), (8, .bool (decide (((97 : Int) ≤ c_1) ∧ (c_1 ≤ (122 : Int))))), (9, .bool (decide (((97 : Int) ≤ c_1) ∧ (c_1 ≤ (122 : Int))))), (10, .int .u8 c_1), (11, .bool (decide ((65 : Int) ≤ c_1))), (12, .bool (decide ((65 : Int) ≤ c_1))), (13, undef), (14, undef), (15, .bool (decide (((65 : Int) ≤ c_1) ∧ (c_1 ≤ (90 : Int))))), (16, .bool (decide ((((97 : Int) ≤ c_1) ∧ (c_1 ≤ (122 : Int))) ∨ (((65 : Int) ≤ c_1) ∧ (c_1 ≤ (90 : Int)))))), (17, .bool (decide ((((97 : Int) ≤ c_1) ∧ (c_1 ≤ (122 : Int))) ∨ (((65 : Int) ≤ c_1) ∧ (c_1 ≤ (90 : Int)))))), (18, .int .u8 c_1), (19, .bool (decide ((48 : Int) ≤ c_1))), (20, .bool (decide ((48 : Int) ≤ c_1))), (21, undef), (22, undef), (23, .bool (decide (((48 : Int) ≤ c_1) ∧ (c_1 ≤ (57 : Int)))))]) ⟨rfl, rfl, rfl, rfl, rfl, rfl, rfl, rfl, rfl, rfl, rfl, rfl, rfl, rfl, rfl, rfl, rfl, rfl, rfl, rfl, rfl, congrArg (fun b => some (Value.bool b)) (and_f hg_20 : false = decide (((48 : Int) ≤ c_1) ∧ (c_1 ≤ (57 : Int)))), trivial⟩ ?_
 refine WL.run hS rfl rfl rfl (ex_pick_f rfl hg_19 rfl) ?_
 refine WL.sub (m := [(0, .int .u8 c_1), (3, .int .u8 c_1), (4, .bool (decide ((97 : Int) ≤ c_1))), (5, .bool (decide ((97 : Int) ≤ c_1))), (6, undef), (7, undef), (8, .bool (decide (((97 : Int) ≤ c_1) ∧ (c_1 ≤ (122 : Int))))), (9, .bool (decide (((97 : Int) ≤ c_1) ∧ (c_1 ≤ (122 : Int))))), (10, .int .u8 c_1), (11, .bool (decide ((65 : Int) ≤ c_1))), (12, .bool (decide ((65 : Int) ≤ c_1))), (13, undef), (14, undef), (15, .bool (decide (((65 : Int) ≤ c_1) ∧ (c_1 ≤ (90 : Int))))), (16, .bool (decide ((((97 : Int) ≤ c_1) ∧ (c_1 ≤ (122 : Int))) ∨ (((65 : Int) ≤ c_1) ∧ (c_1 ≤ (90 : Int)))))), (17, .bool (decide ((((97 : Int) ≤ c_1) ∧ (c_1 ≤ (122 : Int))) ∨ (((65 : Int) ≤ c_1) ∧ (c_1 ≤ (90 : Int)))))), (18, .int .u8 c_1), (19, .bool (decide ((48 : Int) ≤ c_1))), (20, .bool (decide ((48 : Int) ≤ c_1))), (21, undef), (22, undef), (23, .bool (decide (((48 : Int) ≤ c_1) ∧ (c_1 ≤ (57 : Int))))), (24, .bool (decide (((((97 : Int) ≤ c_1) ∧ (c_1 ≤ (122 : Int))) ∨ (((65 : Int) ≤ c_1) ∧ (c_1 ≤ (90 : Int)))) ∨ (((48 : Int) ≤ c_1) ∧ (c_1 ≤ (57 : Int))))))]) ⟨rfl, rfl, rfl, rfl, rfl, rfl, rfl, rfl, rfl, rfl, rfl, rfl, rfl, rfl, rfl, rfl, rfl, rfl, rfl, rfl, rfl, rfl, congrArg (fun b => some (Value.bool b)) (or_f hg_19 : decide (((48 : Int) ≤ c_1) ∧ (c_1 ≤ (57 : Int))) = decide (((((97 : Int) ≤ c_1) ∧ (c_1 ≤ (122 : Int))) ∨ (((65 : Int) ≤ c_1) ∧ (c_1 ≤ (90 : Int)))) ∨ (((48 : Int) ≤ c_1) ∧ (c_1 ≤ (57 : Int))))), trivial⟩ ?_
 refine WL.mv rfl rfl ?_
 rcases Bool.eq_false_or_eq_true (decide (((((97 : Int) ≤ c_1) ∧ (c_1 ≤ (122 : Int))) ∨ (((65 : Int) ≤ c_1) ∧ (c_1 ≤ (90 : Int)))) ∨ (((48 : Int) ≤ c_1) ∧ (c_1 ≤ (57 : Int))))) with hg_22 | hg_22
 refine WL.skip_g rfl rfl rfl hg_22 rfl rfl ?_
 refine WL.skip_g rfl rfl rfl hg_22 rfl rfl ?_
 refine WL.run hS rfl rfl rfl (ex_pick_t rfl hg_22 rfl) ?_
 refine WL.sub (m := [(0, .int .u8 c_1), (3, .int .u8 c_1), (4, .bool (decide ((97 : Int) ≤ c_1))), (5, .bool (decide ((97 : Int) ≤ c_1))), (6, undef), (7, undef), (8, .bool (decide (((97 : Int) ≤ c_1) ∧ (c_1 ≤ (122 : Int))))), (9, .bool (decide (((97 : Int) ≤ c_1) ∧ (c_1 ≤ (122 : Int))))), (10, .int .u8 c_1), (11, .bool (decide ((65 : Int) ≤ c_1))), (12, .bool (decide ((65 : Int) ≤ c_1))), (13, undef), (14, undef), (15, .bool (decide (((65 : Int) ≤ c_1) ∧ (c_1 ≤ (90 : Int))))), (16, .bool (decide ((((97 : Int) ≤ c_1) ∧ (c_1 ≤ (122 : Int))) ∨ (((65 : Int) ≤ c_1) ∧ (c_1 ≤ (90 : Int)))))), (17, .bool (decide ((((97 : Int) ≤ c_1) ∧ (c_1 ≤ (122 : Int))) ∨ (((65 : Int) ≤ c_1) ∧ (c_1 ≤ (90 : Int)))))), (18, .int .u8 c_1), (19, .bool (decide ((48 : Int) ≤ c_1))), (20, .bool (decide ((48 : Int) ≤ c_1))), (21, undef), (22, undef), (23, .bool (decide (((48 : Int) ≤ c_1) ∧ (c_1 ≤ (57 : Int))))), (24, .bool (decide (((((97 : Int) ≤ c_1) ∧ (c_1 ≤ (122 : Int))) ∨ (((65 : Int) ≤ c_1) ∧ (c_1 ≤ (90 : Int)))) ∨ (((48 : Int) ≤ c_1) ∧ (c_1 ≤ (57 : Int)))))), (25, .bool (decide (((((97 : Int) ≤ c_1) ∧ (c_1 ≤ (122 : Int))) ∨ (((65 : Int) ≤ c_1) ∧ (c_1 ≤ (90 : Int)))) ∨ (((48 : Int) ≤ c_1) ∧ (c_1 ≤ (57 : Int)))))), (26, undef), (27, undef), (28, .bool (decide ((((((97 : Int) ≤ c_1) ∧ (c_1 ≤ (122 : Int))) ∨ (((65 : Int) ≤ c_1) ∧ (c_1 ≤ (90 : Int)))) ∨ (((48 : Int) ≤ c_1) ∧ (c_1 ≤ (57 : Int)))) ∨ (c_1 = (95 : Int)))))]) ⟨rfl, rfl, rfl, rfl, rfl, rfl, rfl, rfl, rfl, rfl, rfl, rfl, rfl, rfl, rfl, rfl, rfl, rfl, rfl, rfl, rfl, rfl, rfl, rfl, rfl, rfl, congrArg (fun b => some (Value.bool b)) (or_t hg_22 : true = decide ((((((97 : Int) ≤ c_1) ∧ (c_1 ≤ (122 : Int))) ∨ (((65 : Int) ≤ c_1) ∧ (c_1 ≤ (90 : Int)))) ∨ (((48 : Int) ≤ c_1) ∧ (c_1 ≤ (57 : Int)))) ∨ (c_1 = (95 : Int)))), trivial⟩ ?_
 refine WL.ma rfl rfl ?_
 exact WL.nil (At.of ⟨rfl, trivial⟩)
 refine WL.unguard rfl rfl hg_22 ?_
 refine WL.mv rfl rfl ?_
 refine WL.unguard rfl rfl hg_22 ?_
 refine WL.run hS rfl rfl rfl (ex_eql rfl rfl) ?_
 refine WL.run hS rfl rfl rfl (ex_pick_f rfl hg_22 rfl) ?_
 refine WL.sub (m := [(0, .int .u8 c_1), (3, .int .u8 c_1), (4, .bool (decide ((97 : Int) ≤ c_1))), (5, .bool (decide ((97 : Int) ≤ c_1))), (6, undef), (7, undef), (8, .bool (decide (((97 : Int) ≤ c_1) ∧ (c_1 ≤ (122 : Int))))), (9, .bool (decide (((97 : Int) ≤ c_1) ∧ (c_1 ≤ (122 : Int))))), (10, .int .u8 c_1), (11, .bool (decide ((65 : Int) ≤ c_1))), (12, .bool (decide ((65 : Int) ≤ c_1))), (13, undef), (14, undef), (15, .bool (decide (((65 : Int) ≤ c_1) ∧ (c_1 ≤ (90 : Int))))), (16, .bool (decide ((((97 : Int) ≤ c_1) ∧ (c_1 ≤ (122 : Int))) ∨ (((65 : Int) ≤ c_1) ∧ (c_1 ≤ (90 : Int)))))), (17, .bool (decide ((((97 : Int) ≤ c_1) ∧ (c_1 ≤ (122 : Int))) ∨ (((65 : Int) ≤ c_1) ∧ (c_1 ≤ (90 : Int)))))), (18, .int .u8 c_1), (19, .bool (decide ((48 : Int) ≤ c_1))), (20, .bool (decide ((48 : Int) ≤ c_1))), (21, undef), (22, undef), (23, .bool (decide (((48 : Int) ≤ c_1) ∧ (c_1 ≤ (57 : Int))))), (24, .bool (decide (((((97 : Int) ≤ c_1) ∧ (c_1 ≤ (122 : Int))) ∨ (((65 : Int) ≤ c_1) ∧ (c_1 ≤ (90 : Int)))) ∨ (((48 : Int) ≤ c_1) ∧ (c_1 ≤ (57 : Int)))))), (25, .bool (decide (((((97 : Int) ≤ c_1) ∧ (c_1 ≤ (122 : Int))) ∨ (((65 : Int) ≤ c_1) ∧ (c_1 ≤ (90 : Int)))) ∨ (((48 : Int) ≤ c_1) ∧ (c_1 ≤ (57 : Int)))))), (26, .int .u8 c_1), (27, .bool (decide (c_1 = (95 : Int)))), (28, .bool (decide ((((((97 : Int) ≤ c_1) ∧ (c_1 ≤ (122 : Int))) ∨ (((65 : Int) ≤ c_1) ∧ (c_1 ≤ (90 : Int)))) ∨ (((48 : Int) ≤ c_1) ∧ (c_1 ≤ (57 : Int)))) ∨ (c_1 = (95 : Int)))))]) ⟨rfl, rfl, rfl, rfl, rfl, rfl, rfl, rfl, rfl, rfl, rfl, rfl, rfl, rfl, rfl, rfl, rfl, rfl, rfl, rfl, rfl, rfl, rfl, rfl, rfl, rfl, congrArg (fun b => some (Value.bool b)) (or_f hg_22 : decide (c_1 = (95 : Int)) = decide ((((((97 : Int) ≤ c_1) ∧ (c_1 ≤ (122 : Int))) ∨ (((65 : Int) ≤ c_1) ∧ (c_1 ≤ (90 : Int)))) ∨ (((48 : Int) ≤ c_1) ∧ (c_1 ≤ (57 : Int)))) ∨ (c_1 = (95 : Int)))), trivial⟩ ?_
 refine WL.ma rfl rfl ?_
 exact WL.nil (At.of ⟨rfl, trivial⟩)
 refine WQ.next ?_
 refine WC.ret ?_
 exact leave1 rfl rfl (⟨decide ((((((97 : Int) ≤ c_1) ∧ (c_1 ≤ (122 : Int))) ∨ (((65 : Int) ≤ c_1) ∧ (c_1 ≤ (90 : Int)))) ∨ (((48 : Int) ≤ c_1) ∧ (c_1 ≤ (57 : Int)))) ∨ (c_1 = (95 : Int))), hV, rfl, hS⟩)

theorem S_word {w0 : World} {H : View} {L : Seg} {w : World} {b_2 : Nat} {text_4 : Str} {xat_5 : Int} {deep_7 : Int} {heavy_9 : Bool} {Q : Str → Prop} (hr_6 : I64 xat_5) (hr_8 : I64 deep_7) (hS : St w0 H ([(b_2, oc #[sv text_4, i6 xat_5, i6 deep_7, .bool heavy_9] 62)] ++ L) w) (hV : V_word text_4 xat_5 deep_7 heavy_9 Q) :
 Calls Tryz.prog 104 #[(pq b_2)] w fun e w' => ∃ (r1 : Str), Q r1 ∧ e = .returned (sv r1) ∧ St w0 H ([(b_2, oc #[sv text_4, i6 xat_5, i6 deep_7, .bool heavy_9] 62)] ++ L) w' := by
 unfold V_word at hV
 refine enter Tryz.func104 rfl Tryz.ntmps104 rfl (lk_args_cons (d := 0) (v := (pq b_2)) rfl (lk_args_nil _)) ?_
 refine WC.sr ?_
 refine WL.ma rfl rfl ?_
 refine WL.nx ?_
 refine WC.sr ?_
 refine WL.mv rfl rfl ?_
 refine WL.run hS rfl rfl rfl (ex_nilCheck rfl) ?_
 refine WL.run hS rfl rfl rfl (ex_fieldAddr (o' := 1) Tryz.underlying62 rfl Tryz.sizeOf3 rfl rfl) ?_
 refine WL.run hS rfl rfl rfl (ex_load_box Tryz.isAgg3 rfl rfl) ?_
 refine WL.ma rfl rfl ?_
 refine WL.nx ?_
 refine WC.seq ?_
 refine WC.block ?_
 obtain ⟨I_48, mu_49, hI_70, hV⟩ := hV
 refine WC.loop (σ := Int) (fun s a w => ∃ (k_28 : Int), s = k_28 ∧ I_48 k_28 ∧ I64 k_28 ∧ St w0 H ([(b_2, oc #[sv text_4, i6 xat_5, i6 deep_7, .bool heavy_9] 62)] ++ L) w ∧ Fr 36 [(0, (pq b_2)), (3, i6 k_28)] a) mu_49 xat_5 ?_ ?_
 exact fun a ha => ⟨xat_5, rfl, hI_70, hr_6, hS, ha.of_sub ⟨rfl, rfl, trivial⟩⟩
 clear hS hI_70
 rintro k_28 a w ⟨_, rfl, hI, hr_29, hS, ha⟩
 refine in_frame ha ?_
 clear ha
 replace hV := hV _ hI
 clear hI
 refine WC.seq ?_
 obtain ⟨J_58, hJ_59, hV⟩ := hV
 refine WC.meet (fun a w => ∃ (x_57 : Bool), J_58 x_57 ∧ St w0 H ([(b_2, oc #[sv text_4, i6 xat_5, i6 deep_7, .bool heavy_9] 62)] ++ L) w ∧ Fr 36 [(0, (pq b_2)), (3, i6 k_28), (23, .bool x_57)] a) ?_ ?_
 rintro a w ⟨x_57, hI, hS, ha⟩
 refine in_frame ha ?_
 clear ha hV
 have hV := hJ_59 _ hI
 clear hI hJ_59
 refine WC.cond rfl ?_ ?_
 intro hc_69
 replace hV := hV.1 hc_69
 refine WC.skip ?_
 refine WQ.next ?_
 refine WC.block ?_
 refine WC.region ?_
 refine WL.mv rfl rfl ?_
 obtain ⟨hi_67, hV⟩ := hV
 refine WL.run hS rfl rfl rfl (ex_add rfl rfl hi_67) ?_
 refine WL.ma rfl rfl ?_
 refine WL.nil ?_
 refine WQ.out nofun ?_
 exact WQ.there fun a ha => ⟨(k_28 + (1 : Int)), ⟨(k_28 + (1 : Int)), rfl, hV.1, hi_67, hS, ha.of_sub ⟨rfl, rfl, trivial⟩⟩, hV.2⟩
 intro hc_69
 replace hV := hV.2 hc_69
 refine WC.exit ?_
 refine WQ.pass nofun ?_
 refine WQ.pass nofun ?_
 refine WQ.hit ?_
 refine WQ.next ?_
 refine WC.seq ?_
 refine WC.quiet (C := St w0 H ([(b_2, oc #[sv text_4, i6 xat_5, i6 deep_7, .bool heavy_9] 62)] ++ L)) Tryz.mixed (by kernel_rfl) (hS.drawn _) ?_
 clear hS w
 refine Wq.run rfl rfl rfl (ex_move rfl) ?_
 refine Wq.run rfl rfl rfl (ex_nilCheck rfl) ?_
 refine Wq.run rfl rfl rfl (ex_fieldAddr (o' := 0) Tryz.underlying62 rfl Tryz.sizeOf9 rfl rfl) ?_
 refine Wq.run rfl rfl rfl (ex_load_box Tryz.isAgg9 rfl rfl) ?_
 refine Wq.run rfl rfl rfl (ex_move rfl) ?_
 refine Wq.run rfl rfl rfl (ex_nilCheck rfl) ?_
 refine Wq.run rfl rfl rfl (ex_fieldAddr (o' := 1) Tryz.underlying62 rfl Tryz.sizeOf3 rfl rfl) ?_
 refine Wq.run rfl rfl rfl (ex_load_box Tryz.isAgg3 rfl rfl) ?_
 refine Wq.run rfl rfl rfl (ex_move rfl) ?_
 obtain ⟨hb_68, hV⟩ := hV
 refine Wq.run rfl rfl rfl (ex_s_lohi Tryz.underlying9 rfl rfl rfl hb_68) ?_
 refine Wq.run rfl rfl rfl (ex_assign rfl) ?_
 refine Wq.nil fun w hS => ?_
 refine WQ.next ?_
 refine WC.sub (m := [(2, sv ((text_4.take k_28.toNat).drop xat_5.toNat))]) ⟨rfl, trivial⟩ ?_
 refine WC.ret ?_
 exact leave1 rfl rfl (⟨((text_4.take k_28.toNat).drop xat_5.toNat), hV, rfl, hS⟩)
 clear hJ_59
 refine WC.region ?_
 refine WL.mv rfl rfl ?_
 refine WL.mv rfl rfl ?_
 refine WL.run hS rfl rfl rfl (ex_nilCheck rfl) ?_
 refine WL.run hS rfl rfl rfl (ex_fieldAddr (o' := 0) Tryz.underlying62 rfl Tryz.sizeOf9 rfl rfl) ?_
 refine WL.run hS rfl rfl rfl (ex_load_box Tryz.isAgg9 rfl rfl) ?_
 obtain ⟨hl_60, hV⟩ := hV
 refine WL.run hS rfl rfl rfl (ex_s_len Tryz.underlying9 rfl) ?_
 refine WL.run hS rfl rfl rfl (ex_lss rfl rfl) ?_
 refine WL.mv rfl rfl ?_
 rcases Bool.eq_false_or_eq_true (decide (k_28 < (text_4.length : Int))) with hg_62 | hg_62
 replace hV := hV.1 (of_decide_eq_true hg_62)
 refine WL.unguard rfl rfl hg_62 ?_
 refine WL.mv rfl rfl ?_
 refine WL.unguard rfl rfl hg_62 ?_
 refine WL.run hS rfl rfl rfl (ex_nilCheck rfl) ?_
 refine WL.unguard rfl rfl hg_62 ?_
 refine WL.run hS rfl rfl rfl (ex_fieldAddr (o' := 0) Tryz.underlying62 rfl Tryz.sizeOf9 rfl rfl) ?_
 refine WL.unguard rfl rfl hg_62 ?_
 refine WL.run hS rfl rfl rfl (ex_load_box Tryz.isAgg9 rfl rfl) ?_
 refine WL.unguard rfl rfl hg_62 ?_
 refine WL.mv rfl rfl ?_
 refine WL.unguard rfl rfl hg_62 ?_
 obtain ⟨hin_63, hV⟩ := hV
 refine WL.run hS rfl rfl rfl (ex_s_index Tryz.underlying9 rfl rfl hin_63) ?_
 refine WL.unguard rfl rfl hg_62 ?_
 refine WL.call rfl rfl rfl (enters0 (vs := [.int .u8 (byte text_4 k_28)]) Tryz.call193 ⟨rfl, trivial⟩) (S_inWord (byte_has (x := text_4) (i := k_28)) hS hV) ?_
 clear hV hS
 rintro _ w ⟨r_64, hV, rfl, hS⟩
 refine ⟨_, rfl, ?_⟩
 refine WL.run hS rfl rfl rfl (ex_pick_t rfl hg_62 rfl) ?_
 refine WL.nil ?_
 exact WQ.there fun a ha => ⟨r_64, hV, hS, ha.of_sub ⟨rfl, rfl, rfl, trivial⟩⟩
 replace hV := hV.2 (of_decide_eq_false hg_62)
 refine WL.skip_g rfl rfl rfl hg_62 rfl rfl ?_
 refine WL.skip_g rfl rfl rfl hg_62 rfl rfl ?_
 refine WL.skip_g rfl rfl rfl hg_62 rfl rfl ?_
 refine WL.skip_g rfl rfl rfl hg_62 rfl rfl ?_
 refine WL.skip_g rfl rfl rfl hg_62 rfl rfl ?_
 refine WL.skip_g rfl rfl rfl hg_62 rfl rfl ?_
 refine WL.skip_g rfl rfl rfl hg_62 rfl rfl ?_
 refine WL.run hS rfl rfl rfl (ex_pick_f rfl hg_62 rfl) ?_
 refine WL.nil ?_
 exact WQ.there fun a ha => ⟨false, hV, hS, ha.of_sub ⟨rfl, rfl, rfl, trivial⟩⟩

theorem S_weighed {w0 : World} {H : View} {L : Seg} {w : World} {b_2 : Nat} {text_4 : Str} {xat_5 : Int} {deep_7 : Int} {heavy_9 : Bool} {v_10 : Val} {u_11 : Value} {Q : Val → Bool → Prop} (hr_6 : I64 xat_5) (hr_8 : I64 deep_7) (h_12 : IsW H u_11 v_10) (hS : St w0 H ([(b_2, oc #[sv text_4, i6 xat_5, i6 deep_7, .bool heavy_9] 62)] ++ L) w) (hV : V_weighed text_4 xat_5 deep_7 heavy_9 v_10 Q) :
 Calls Tryz.prog 59 #[(pq b_2), .agg #[u_11]] w fun e w' => ∃ (r1 : Val) (r2 : Bool) (u1 : Value) (H' : View), Q r1 r2 ∧ e = .returned (.agg #[u1]) ∧ View.le H H' ∧ IsW H' u1 r1 ∧ St w0 H' ([(b_2, oc #[sv text_4, i6 xat_5, i6 deep_7, .bool r2] 62)] ++ L) w' := by
 unfold V_weighed at hV
 refine enter Tryz.func59 rfl Tryz.ntmps59 rfl (lk_args_cons (d := 0) (v := (pq b_2)) rfl (lk_args_cons (d := 1) (v := .agg #[u_11]) rfl (lk_args_nil _))) ?_
 refine WC.sr ?_
 refine WL.box (arr := #[u_11]) rfl rfl rfl hS ?_
 clear hS
 intro b_13 w hS
 refine WL.alloc (arr := #[.nilIface]) rfl Tryz.zeroValue25 rfl hS ?_
 clear hS
 intro b_15 w hS
 refine WL.nx ?_
 obtain ⟨J_19, hJ_20, hV⟩ := hV
 refine WC.meet (fun a w => ∃ (c_18 : Bool), J_19 c_18 ∧ St w0 H ([(b_13, oc #[u_11] 25)] ++ ([(b_15, oc #[.nilIface] 25)] ++ ([(b_2, oc #[sv text_4, i6 xat_5, i6 deep_7, .bool c_18] 62)] ++ L))) w ∧ Fr 18 [(3, (pq b_13)), (4, (pq b_15))] a) ?_ ?_
 rintro a w ⟨c_18, hI, hS, ha⟩
 refine in_frame ha ?_
 clear ha hV
 have hV := hJ_20 _ hI
 clear hI hJ_20
 refine WC.sr ?_
 refine WL.run hS rfl rfl rfl (ex_load_box_agg (cs := [u_11]) Tryz.isAgg25 Tryz.sizeOf25 rfl rfl rfl) ?_
 replace hS := hS.f2
 refine WL.store_box (pre := []) (old := [.nilIface]) (rst := []) (cs := [u_11]) (arr' := #[u_11]) Tryz.sizeOf25 rfl rfl rfl ⟨(IsW.one h_12), trivial⟩ rfl rfl rfl rfl hS ?_
 clear hS
 intro w hS
 refine WL.nx ?_
 replace hS := hS.f2.drop
 refine WC.ret ?_
 have hl_22 := load_own_agg (P := Tryz.prog) (cs := [u_11]) Tryz.isAgg25 Tryz.sizeOf25 hS rfl
 replace hS := hS.drop
 exact leavec1 (il) rfl rfl hl_22 (⟨v_10, c_18, u_11, H, hV, rfl, (View.le.refl _), h_12, hS⟩)
 clear hJ_20
 refine WC.region ?_
 refine WL.mv rfl rfl ?_
 refine WL.mv rfl rfl ?_
 refine WL.run hS rfl rfl rfl (ex_nilCheck rfl) ?_
 refine WL.run hS rfl rfl rfl (ex_fieldAddr (o' := 3) Tryz.underlying62 rfl Tryz.sizeOf4 rfl rfl) ?_
 replace hS := hS.f3
 refine WL.run hS rfl rfl rfl (ex_load_box Tryz.isAgg4 rfl rfl) ?_
 refine WL.mv rfl rfl ?_
 rcases Bool.eq_false_or_eq_true heavy_9 with hg_21 | hg_21
 replace hV := hV.1 hg_21
 refine WL.skip_g rfl rfl rfl hg_21 rfl rfl ?_
 refine WL.skip_g rfl rfl rfl hg_21 rfl rfl ?_
 refine WL.skip_g rfl rfl rfl hg_21 rfl rfl ?_
 refine WL.run hS rfl rfl rfl (ex_pick_t rfl hg_21 rfl) ?_
 refine WL.run hS rfl rfl rfl (ex_nilCheck rfl) ?_
 refine WL.run hS rfl rfl rfl (ex_fieldAddr (o' := 3) Tryz.underlying62 rfl Tryz.sizeOf4 rfl rfl) ?_
 refine WL.store_box (pre := [sv text_4, i6 xat_5, i6 deep_7]) (old := [.bool heavy_9]) (rst := []) (cs := [.bool true]) (arr' := #[sv text_4, i6 xat_5, i6 deep_7, .bool true]) Tryz.sizeOf4 rfl rfl rfl ⟨rfl, trivial⟩ rfl rfl rfl rfl hS ?_
 clear hS
 intro w hS
 refine WL.nil ?_
 replace hS := hS.f2.f3
 exact WQ.there fun a ha => ⟨true, hV, hS, ha.of_sub ⟨rfl, rfl, trivial⟩⟩
 replace hV := hV.2 hg_21
 refine WL.unguard rfl rfl hg_21 ?_
 refine WL.run hS rfl rfl rfl (ex_fieldAddr (o' := 0) Tryz.underlying25 rfl Tryz.sizeOf23 rfl rfl) ?_
 refine WL.unguard rfl rfl hg_21 ?_
 replace hS := hS.f3
 refine WL.run hS rfl rfl rfl (ex_load_box Tryz.isAgg23 rfl rfl) ?_
 refine WL.unguard rfl rfl hg_21 ?_
 refine WL.run hS rfl rfl rfl (ex_v_eql Tryz.iface23 rfl h_12) ?_
 refine WL.run hS rfl rfl rfl (ex_pick_f rfl hg_21 rfl) ?_
 refine WL.run hS rfl rfl rfl (ex_nilCheck rfl) ?_
 refine WL.run hS rfl rfl rfl (ex_fieldAddr (o' := 3) Tryz.underlying62 rfl Tryz.sizeOf4 rfl rfl) ?_
 replace hS := hS.f2
 refine WL.store_box (pre := [sv text_4, i6 xat_5, i6 deep_7]) (old := [.bool heavy_9]) (rst := []) (cs := [.bool v_10.isNil]) (arr' := #[sv text_4, i6 xat_5, i6 deep_7, .bool v_10.isNil]) Tryz.sizeOf4 rfl rfl rfl ⟨rfl, trivial⟩ rfl rfl rfl rfl hS ?_
 clear hS
 intro w hS
 refine WL.nil ?_
 replace hS := hS.f3.f3
 exact WQ.there fun a ha => ⟨v_10.isNil, hV, hS, ha.of_sub ⟨rfl, rfl, trivial⟩⟩

theorem S_Reserved {w0 : World} {H : View} {L : Seg} {w : World} {s_1 : Str} {Q : Bool → Prop}  (hS : St w0 H (L) w) (hV : V_Reserved s_1 Q) :
 Calls Tryz.prog 107 #[sv s_1] w fun e w' => ∃ (r1 : Bool), Q r1 ∧ e = .returned (.bool r1) ∧ St w0 H (L) w' := by
 unfold V_Reserved at hV
 refine enter Tryz.func107 rfl Tryz.ntmps107 rfl (lk_args_cons (d := 0) (v := sv s_1) rfl (lk_args_nil _)) ?_
 refine WC.sr ?_
 refine WL.ma rfl rfl ?_
 refine WL.nx ?_
 refine WC.seq ?_
 refine WC.sr ?_
 refine WL.mv rfl rfl ?_
 refine WL.nx ?_
 refine WC.block ?_
 obtain ⟨J_54, hJ_55, hV⟩ := hV
 refine WC.meet (fun a w => ∃ (x_53 : Bool), J_54 x_53 ∧ St w0 H (L) w ∧ Fr 57 [(4, .bool x_53)] a) ?_ ?_
 rintro a w ⟨x_53, hI, hS, ha⟩
 refine in_frame ha ?_
 clear ha hV
 have hV := hJ_55 _ hI
 clear hI hJ_55
 refine WC.cond rfl ?_ ?_
 intro hc_107
 replace hV := hV.1 hc_107
 refine WC.sr ?_
 refine WL.ma rfl rfl ?_
 refine WL.nx ?_
 refine WC.ret ?_
 refine WQ.out nofun ?_
 refine WQ.pass nofun ?_
 exact leave1 rfl rfl (⟨true, hV, rfl, hS⟩)
 intro hc_107
 replace hV := hV.2 hc_107
 refine WC.skip ?_
 refine WQ.out nofun ?_
 refine WQ.next ?_
 refine WC.sr ?_
 refine WL.ma rfl rfl ?_
 refine WL.nx ?_
 refine WC.ret ?_
 exact leave1 rfl rfl (⟨false, hV, rfl, hS⟩)
 clear hJ_55
 refine WC.sr ?_
 refine WL.run hS rfl rfl rfl (ex_s_eql rfl rfl) ?_
 refine WL.ma rfl rfl ?_
 refine WL.nx ?_
 refine WC.cond rfl ?_ ?_
 intro hc_106
 replace hV := hV.1 (of_decide_eq_true hc_106)
 refine WC.skip ?_
 exact WQ.there fun a ha => ⟨decide (s_1 = ([109, 111, 100, 117, 108, 101] : Str)), hV, hS, ha.of_sub ⟨rfl, trivial⟩⟩
 intro hc_106
 replace hV := hV.2 (of_decide_eq_false hc_106)
 refine WC.sr ?_
 refine WL.run hS rfl rfl rfl (ex_s_eql rfl rfl) ?_
 refine WL.ma rfl rfl ?_
 refine WL.nx ?_
 refine WC.cond rfl ?_ ?_
 intro hc_105
 replace hV := hV.1 (of_decide_eq_true hc_105)
 refine WC.skip ?_
 exact WQ.there fun a ha => ⟨decide (s_1 = ([99, 111, 110, 115, 116, 97, 110, 116] : Str)), hV, hS, ha.of_sub ⟨rfl, trivial⟩⟩
 intro hc_105
 replace hV := hV.2 (of_decide_eq_false hc_105)
 refine WC.sr ?_
 refine WL.run hS rfl rfl rfl (ex_s_eql rfl rfl) ?_
 refine WL.ma rfl rfl ?_
 refine WL.nx ?_
 refine WC.cond rfl ?_ ?_
 intro hc_104
 replace hV := hV.1 (of_decide_eq_true hc_104)
 refine WC.skip ?_
 exact WQ.there fun a ha => ⟨decide (s_1 = ([97, 116, 111, 109, 115] : Str)), hV, hS, ha.of_sub ⟨rfl, trivial⟩⟩
 intro hc_104
 replace hV := hV.2 (of_decide_eq_false hc_104)
 refine WC.sr ?_
 refine WL.run hS rfl rfl rfl (ex_s_eql rfl rfl) ?_
 refine WL.ma rfl rfl ?_
 refine WL.nx ?_
 refine WC.cond rfl ?_ ?_
 intro hc_103
 replace hV := hV.1 (of_decide_eq_true hc_103)
 refine WC.skip ?_
 exact WQ.there fun a ha => ⟨decide (s_1 = ([115, 121, 109, 109, 101, 116, 114, 105, 99] : Str)), hV, hS, ha.of_sub ⟨rfl, trivial⟩⟩
 intro hc_103
 replace hV := hV.2 (of_decide_eq_false hc_103)
 refine WC.sr ?_
 refine WL.run hS rfl rfl rfl (ex_s_eql rfl rfl) ?_
 refine WL.ma rfl rfl ?_
 refine WL.nx ?_
 refine WC.cond rfl ?_ ?_
 intro hc_102
 replace hV := hV.1 (of_decide_eq_true hc_102)
 refine WC.skip ?_
 exact WQ.there fun a ha => ⟨decide (s_1 = ([118, 97, 114, 105, 97, 98, 108, 101] : Str)), hV, hS, ha.of_sub ⟨rfl, trivial⟩⟩
 intro hc_102
 replace hV := hV.2 (of_decide_eq_false hc_102)
 refine WC.sr ?_
 refine WL.run hS rfl rfl rfl (ex_s_eql rfl rfl) ?_
 refine WL.ma rfl rfl ?_
 refine WL.nx ?_
 refine WC.cond rfl ?_ ?_
 intro hc_101
 replace hV := hV.1 (of_decide_eq_true hc_101)
 refine WC.skip ?_
 exact WQ.there fun a ha => ⟨decide (s_1 = ([100, 101, 102, 105, 110, 101] : Str)), hV, hS, ha.of_sub ⟨rfl, trivial⟩⟩
 intro hc_101
 replace hV := hV.2 (of_decide_eq_false hc_101)
 refine WC.sr ?_
 refine WL.run hS rfl rfl rfl (ex_s_eql rfl rfl) ?_
 refine WL.ma rfl rfl ?_
 refine WL.nx ?_
 refine WC.cond rfl ?_ ?_
 intro hc_100
 replace hV := hV.1 (of_decide_eq_true hc_100)
 refine WC.skip ?_
 exact WQ.there fun a ha => ⟨decide (s_1 = ([105, 110, 105, 116] : Str)), hV, hS, ha.of_sub ⟨rfl, trivial⟩⟩
 intro hc_100
 replace hV := hV.2 (of_decide_eq_false hc_100)
 refine WC.sr ?_
 refine WL.run hS rfl rfl rfl (ex_s_eql rfl rfl) ?_
 refine WL.ma rfl rfl ?_
 refine WL.nx ?_
 refine WC.sub (m := [(3, sv s_1), (4, .bool (decide (s_1 = ([97, 99, 116, 105, 111, 110] : Str))))]) ⟨rfl, rfl, trivial⟩ ?_
 refine WC.cond rfl ?_ ?_
 intro hc_99
 replace hV := hV.1 (of_decide_eq_true hc_99)
 refine WC.skip ?_
 exact WQ.there fun a ha => ⟨decide (s_1 = ([97, 99, 116, 105, 111, 110] : Str)), hV, hS, ha.of_sub ⟨rfl, trivial⟩⟩
 intro hc_99
 replace hV := hV.2 (of_decide_eq_false hc_99)
 refine WC.sr ?_
 refine WL.run hS rfl rfl rfl (ex_s_eql rfl rfl) ?_
 refine WL.ma rfl rfl ?_
 refine WL.nx ?_
 refine WC.cond rfl ?_ ?_
 intro hc_98
 replace hV := hV.1 (of_decide_eq_true hc_98)
 refine WC.skip ?_
 exact WQ.there fun a ha => ⟨decide (s_1 = ([102, 97, 105, 114] : Str)), hV, hS, ha.of_sub ⟨rfl, trivial⟩⟩
 intro hc_98
 replace hV := hV.2 (of_decide_eq_false hc_98)
 refine WC.sr ?_
 refine WL.run hS rfl rfl rfl (ex_s_eql rfl rfl) ?_
 refine WL.ma rfl rfl ?_
 refine WL.nx ?_
 refine WC.cond rfl ?_ ?_
 intro hc_97
 replace hV := hV.1 (of_decide_eq_true hc_97)
 refine WC.skip ?_
 exact WQ.there fun a ha => ⟨decide (s_1 = ([119, 101, 97, 107] : Str)), hV, hS, ha.of_sub ⟨rfl, trivial⟩⟩
 intro hc_97
 replace hV := hV.2 (of_decide_eq_false hc_97)
 refine WC.sr ?_
 refine WL.run hS rfl rfl rfl (ex_s_eql rfl rfl) ?_
 refine WL.ma rfl rfl ?_
 refine WL.nx ?_
 refine WC.cond rfl ?_ ?_
 intro hc_96
 replace hV := hV.1 (of_decide_eq_true hc_96)
 refine WC.skip ?_
 exact WQ.there fun a ha => ⟨decide (s_1 = ([115, 116, 114, 111, 110, 103] : Str)), hV, hS, ha.of_sub ⟨rfl, trivial⟩⟩
 intro hc_96
 replace hV := hV.2 (of_decide_eq_false hc_96)
 refine WC.sr ?_
 refine WL.run hS rfl rfl rfl (ex_s_eql rfl rfl) ?_
 refine WL.ma rfl rfl ?_
 refine WL.nx ?_
 refine WC.cond rfl ?_ ?_
 intro hc_95
 replace hV := hV.1 (of_decide_eq_true hc_95)
 refine WC.skip ?_
 exact WQ.there fun a ha => ⟨decide (s_1 = ([105, 110, 118, 97, 114, 105, 97, 110, 116] : Str)), hV, hS, ha.of_sub ⟨rfl, trivial⟩⟩
 intro hc_95
 replace hV := hV.2 (of_decide_eq_false hc_95)
 refine WC.sr ?_
 refine WL.run hS rfl rfl rfl (ex_s_eql rfl rfl) ?_
 refine WL.ma rfl rfl ?_
 refine WL.nx ?_
 refine WC.cond rfl ?_ ?_
 intro hc_94
 replace hV := hV.1 (of_decide_eq_true hc_94)
 refine WC.skip ?_
 exact WQ.there fun a ha => ⟨decide (s_1 = ([112, 114, 111, 112, 101, 114, 116, 121] : Str)), hV, hS, ha.of_sub ⟨rfl, trivial⟩⟩
 intro hc_94
 replace hV := hV.2 (of_decide_eq_false hc_94)
 refine WC.sr ?_
 refine WL.run hS rfl rfl rfl (ex_s_eql rfl rfl) ?_
 refine WL.ma rfl rfl ?_
 refine WL.nx ?_
 refine WC.cond rfl ?_ ?_
 intro hc_93
 replace hV := hV.1 (of_decide_eq_true hc_93)
 refine WC.skip ?_
 exact WQ.there fun a ha => ⟨decide (s_1 = ([97, 110, 100] : Str)), hV, hS, ha.of_sub ⟨rfl, trivial⟩⟩
 intro hc_93
 replace hV := hV.2 (of_decide_eq_false hc_93)
 refine WC.sr ?_
 refine WL.run hS rfl rfl rfl (ex_s_eql rfl rfl) ?_
 refine WL.ma rfl rfl ?_
 refine WL.nx ?_
 refine WC.cond rfl ?_ ?_
 intro hc_92
 replace hV := hV.1 (of_decide_eq_true hc_92)
 refine WC.skip ?_
 exact WQ.there fun a ha => ⟨decide (s_1 = ([111, 114] : Str)), hV, hS, ha.of_sub ⟨rfl, trivial⟩⟩
 intro hc_92
 replace hV := hV.2 (of_decide_eq_false hc_92)
 refine WC.sr ?_
 refine WL.run hS rfl rfl rfl (ex_s_eql rfl rfl) ?_
 refine WL.ma rfl rfl ?_
 refine WL.nx ?_
 refine WC.cond rfl ?_ ?_
 intro hc_91
 replace hV := hV.1 (of_decide_eq_true hc_91)
 refine WC.skip ?_
 exact WQ.there fun a ha => ⟨decide (s_1 = ([110, 111, 116] : Str)), hV, hS, ha.of_sub ⟨rfl, trivial⟩⟩
 intro hc_91
 replace hV := hV.2 (of_decide_eq_false hc_91)
 refine WC.sr ?_
 refine WL.run hS rfl rfl rfl (ex_s_eql rfl rfl) ?_
 refine WL.ma rfl rfl ?_
 refine WL.nx ?_
 refine WC.cond rfl ?_ ?_
 intro hc_90
 replace hV := hV.1 (of_decide_eq_true hc_90)
 refine WC.skip ?_
 exact WQ.there fun a ha => ⟨decide (s_1 = ([105, 109, 112, 108, 105, 101, 115] : Str)), hV, hS, ha.of_sub ⟨rfl, trivial⟩⟩
 intro hc_90
 replace hV := hV.2 (of_decide_eq_false hc_90)
 refine WC.sr ?_
 refine WL.run hS rfl rfl rfl (ex_s_eql rfl rfl) ?_
 refine WL.ma rfl rfl ?_
 refine WL.nx ?_
 refine WC.sub (m := [(3, sv s_1), (4, .bool (decide (s_1 = ([105, 102, 102] : Str))))]) ⟨rfl, rfl, trivial⟩ ?_
 refine WC.cond rfl ?_ ?_
 intro hc_89
 replace hV := hV.1 (of_decide_eq_true hc_89)
 refine WC.skip ?_
 exact WQ.there fun a ha => ⟨decide (s_1 = ([105, 102, 102] : Str)), hV, hS, ha.of_sub ⟨rfl, trivial⟩⟩
 intro hc_89
 replace hV := hV.2 (of_decide_eq_false hc_89)
 refine WC.sr ?_
 refine WL.run hS rfl rfl rfl (ex_s_eql rfl rfl) ?_
 refine WL.ma rfl rfl ?_
 refine WL.nx ?_
 refine WC.cond rfl ?_ ?_
 intro hc_88
 replace hV := hV.1 (of_decide_eq_true hc_88)
 refine WC.skip ?_
 exact WQ.there fun a ha => ⟨decide (s_1 = ([105, 110] : Str)), hV, hS, ha.of_sub ⟨rfl, trivial⟩⟩
 intro hc_88
 replace hV := hV.2 (of_decide_eq_false hc_88)
 refine WC.sr ?_
 refine WL.run hS rfl rfl rfl (ex_s_eql rfl rfl) ?_
 refine WL.ma rfl rfl ?_
 refine WL.nx ?_
 refine WC.cond rfl ?_ ?_
 intro hc_87
 replace hV := hV.1 (of_decide_eq_true hc_87)
 refine WC.skip ?_
 exact WQ.there fun a ha => ⟨decide (s_1 = ([117, 110, 105, 111, 110] : Str)), hV, hS, ha.of_sub ⟨rfl, trivial⟩⟩
 intro hc_87
 replace hV := hV.2 (of_decide_eq_false hc_87)
 refine WC.sr ?_
 refine WL.run hS rfl rfl rfl (ex_s_eql rfl rfl) ?_
 refine WL.ma rfl rfl ?_
 refine WL.nx ?_
 refine WC.cond rfl ?_ ?_
 intro hc_86
 replace hV := hV.1 (of_decide_eq_true hc_86)
 refine WC.skip ?_
 exact WQ.there fun a ha => ⟨decide (s_1 = ([105, 110, 116, 101, 114] : Str)), hV, hS, ha.of_sub ⟨rfl, trivial⟩⟩
 intro hc_86
 replace hV := hV.2 (of_decide_eq_false hc_86)
 refine WC.sr ?_
 refine WL.run hS rfl rfl rfl (ex_s_eql rfl rfl) ?_
 refine WL.ma rfl rfl ?_
 refine WL.nx ?_
 refine WC.cond rfl ?_ ?_
 intro hc_85
 replace hV := hV.1 (of_decide_eq_true hc_85)
 refine WC.skip ?_
 exact WQ.there fun a ha => ⟨decide (s_1 = ([109, 105, 110, 117, 115] : Str)), hV, hS, ha.of_sub ⟨rfl, trivial⟩⟩
 intro hc_85
 replace hV := hV.2 (of_decide_eq_false hc_85)
 refine WC.sr ?_
 refine WL.run hS rfl rfl rfl (ex_s_eql rfl rfl) ?_
 refine WL.ma rfl rfl ?_
 refine WL.nx ?_
 refine WC.cond rfl ?_ ?_
 intro hc_84
 replace hV := hV.1 (of_decide_eq_true hc_84)
 refine WC.skip ?_
 exact WQ.there fun a ha => ⟨decide (s_1 = ([115, 117, 98, 115, 101, 116] : Str)), hV, hS, ha.of_sub ⟨rfl, trivial⟩⟩
 intro hc_84
 replace hV := hV.2 (of_decide_eq_false hc_84)
 refine WC.sr ?_
 refine WL.run hS rfl rfl rfl (ex_s_eql rfl rfl) ?_
 refine WL.ma rfl rfl ?_
 refine WL.nx ?_
 refine WC.cond rfl ?_ ?_
 intro hc_83
 replace hV := hV.1 (of_decide_eq_true hc_83)
 refine WC.skip ?_
 exact WQ.there fun a ha => ⟨decide (s_1 = ([112, 111, 119, 101, 114, 115, 101, 116] : Str)), hV, hS, ha.of_sub ⟨rfl, trivial⟩⟩
 intro hc_83
 replace hV := hV.2 (of_decide_eq_false hc_83)
 refine WC.sr ?_
 refine WL.run hS rfl rfl rfl (ex_s_eql rfl rfl) ?_
 refine WL.ma rfl rfl ?_
 refine WL.nx ?_
 refine WC.cond rfl ?_ ?_
 intro hc_82
 replace hV := hV.1 (of_decide_eq_true hc_82)
 refine WC.skip ?_
 exact WQ.there fun a ha => ⟨decide (s_1 = ([102, 108, 97, 116, 116, 101, 110] : Str)), hV, hS, ha.of_sub ⟨rfl, trivial⟩⟩
 intro hc_82
 replace hV := hV.2 (of_decide_eq_false hc_82)
 refine WC.sr ?_
 refine WL.run hS rfl rfl rfl (ex_s_eql rfl rfl) ?_
 refine WL.ma rfl rfl ?_
 refine WL.nx ?_
 refine WC.cond rfl ?_ ?_
 intro hc_81
 replace hV := hV.1 (of_decide_eq_true hc_81)
 refine WC.skip ?_
 exact WQ.there fun a ha => ⟨decide (s_1 = ([100, 111, 109, 97, 105, 110] : Str)), hV, hS, ha.of_sub ⟨rfl, trivial⟩⟩
 intro hc_81
 replace hV := hV.2 (of_decide_eq_false hc_81)
 refine WC.sr ?_
 refine WL.run hS rfl rfl rfl (ex_s_eql rfl rfl) ?_
 refine WL.ma rfl rfl ?_
 refine WL.nx ?_
 refine WC.cond rfl ?_ ?_
 intro hc_80
 replace hV := hV.1 (of_decide_eq_true hc_80)
 refine WC.skip ?_
 exact WQ.there fun a ha => ⟨decide (s_1 = ([117, 110, 99, 104, 97, 110, 103, 101, 100] : Str)), hV, hS, ha.of_sub ⟨rfl, trivial⟩⟩
 intro hc_80
 replace hV := hV.2 (of_decide_eq_false hc_80)
 refine WC.sr ?_
 refine WL.run hS rfl rfl rfl (ex_s_eql rfl rfl) ?_
 refine WL.ma rfl rfl ?_
 refine WL.nx ?_
 refine WC.sub (m := [(3, sv s_1), (4, .bool (decide (s_1 = ([101, 110, 97, 98, 108, 101, 100] : Str))))]) ⟨rfl, rfl, trivial⟩ ?_
 refine WC.cond rfl ?_ ?_
 intro hc_79
 replace hV := hV.1 (of_decide_eq_true hc_79)
 refine WC.skip ?_
 exact WQ.there fun a ha => ⟨decide (s_1 = ([101, 110, 97, 98, 108, 101, 100] : Str)), hV, hS, ha.of_sub ⟨rfl, trivial⟩⟩
 intro hc_79
 replace hV := hV.2 (of_decide_eq_false hc_79)
 refine WC.sr ?_
 refine WL.run hS rfl rfl rfl (ex_s_eql rfl rfl) ?_
 refine WL.ma rfl rfl ?_
 refine WL.nx ?_
 refine WC.cond rfl ?_ ?_
 intro hc_78
 replace hV := hV.1 (of_decide_eq_true hc_78)
 refine WC.skip ?_
 exact WQ.there fun a ha => ⟨decide (s_1 = ([97, 108, 119, 97, 121, 115] : Str)), hV, hS, ha.of_sub ⟨rfl, trivial⟩⟩
 intro hc_78
 replace hV := hV.2 (of_decide_eq_false hc_78)
 refine WC.sr ?_
 refine WL.run hS rfl rfl rfl (ex_s_eql rfl rfl) ?_
 refine WL.ma rfl rfl ?_
 refine WL.nx ?_
 refine WC.cond rfl ?_ ?_
 intro hc_77
 replace hV := hV.1 (of_decide_eq_true hc_77)
 refine WC.skip ?_
 exact WQ.there fun a ha => ⟨decide (s_1 = ([101, 118, 101, 110, 116, 117, 97, 108, 108, 121] : Str)), hV, hS, ha.of_sub ⟨rfl, trivial⟩⟩
 intro hc_77
 replace hV := hV.2 (of_decide_eq_false hc_77)
 refine WC.sr ?_
 refine WL.run hS rfl rfl rfl (ex_s_eql rfl rfl) ?_
 refine WL.ma rfl rfl ?_
 refine WL.nx ?_
 refine WC.cond rfl ?_ ?_
 intro hc_76
 replace hV := hV.1 (of_decide_eq_true hc_76)
 refine WC.skip ?_
 exact WQ.there fun a ha => ⟨decide (s_1 = ([117, 110, 116, 105, 108] : Str)), hV, hS, ha.of_sub ⟨rfl, trivial⟩⟩
 intro hc_76
 replace hV := hV.2 (of_decide_eq_false hc_76)
 refine WC.sr ?_
 refine WL.run hS rfl rfl rfl (ex_s_eql rfl rfl) ?_
 refine WL.ma rfl rfl ?_
 refine WL.nx ?_
 refine WC.cond rfl ?_ ?_
 intro hc_75
 replace hV := hV.1 (of_decide_eq_true hc_75)
 refine WC.skip ?_
 exact WQ.there fun a ha => ⟨decide (s_1 = ([108, 101, 97, 100, 115, 116, 111] : Str)), hV, hS, ha.of_sub ⟨rfl, trivial⟩⟩
 intro hc_75
 replace hV := hV.2 (of_decide_eq_false hc_75)
 refine WC.sr ?_
 refine WL.run hS rfl rfl rfl (ex_s_eql rfl rfl) ?_
 refine WL.ma rfl rfl ?_
 refine WL.nx ?_
 refine WC.cond rfl ?_ ?_
 intro hc_74
 replace hV := hV.1 (of_decide_eq_true hc_74)
 refine WC.skip ?_
 exact WQ.there fun a ha => ⟨decide (s_1 = ([99, 104, 111, 111, 115, 101] : Str)), hV, hS, ha.of_sub ⟨rfl, trivial⟩⟩
 intro hc_74
 replace hV := hV.2 (of_decide_eq_false hc_74)
 refine WC.sr ?_
 refine WL.run hS rfl rfl rfl (ex_s_eql rfl rfl) ?_
 refine WL.ma rfl rfl ?_
 refine WL.nx ?_
 refine WC.cond rfl ?_ ?_
 intro hc_73
 replace hV := hV.1 (of_decide_eq_true hc_73)
 refine WC.skip ?_
 exact WQ.there fun a ha => ⟨decide (s_1 = ([97, 108, 108] : Str)), hV, hS, ha.of_sub ⟨rfl, trivial⟩⟩
 intro hc_73
 replace hV := hV.2 (of_decide_eq_false hc_73)
 refine WC.sr ?_
 refine WL.run hS rfl rfl rfl (ex_s_eql rfl rfl) ?_
 refine WL.ma rfl rfl ?_
 refine WL.nx ?_
 refine WC.cond rfl ?_ ?_
 intro hc_72
 replace hV := hV.1 (of_decide_eq_true hc_72)
 refine WC.skip ?_
 exact WQ.there fun a ha => ⟨decide (s_1 = ([115, 111, 109, 101] : Str)), hV, hS, ha.of_sub ⟨rfl, trivial⟩⟩
 intro hc_72
 replace hV := hV.2 (of_decide_eq_false hc_72)
 refine WC.sr ?_
 refine WL.run hS rfl rfl rfl (ex_s_eql rfl rfl) ?_
 refine WL.ma rfl rfl ?_
 refine WL.nx ?_
 refine WC.cond rfl ?_ ?_
 intro hc_71
 replace hV := hV.1 (of_decide_eq_true hc_71)
 refine WC.skip ?_
 exact WQ.there fun a ha => ⟨decide (s_1 = ([101, 97, 99, 104] : Str)), hV, hS, ha.of_sub ⟨rfl, trivial⟩⟩
 intro hc_71
 replace hV := hV.2 (of_decide_eq_false hc_71)
 refine WC.sr ?_
 refine WL.run hS rfl rfl rfl (ex_s_eql rfl rfl) ?_
 refine WL.ma rfl rfl ?_
 refine WL.nx ?_
 refine WC.cond rfl ?_ ?_
 intro hc_70
 replace hV := hV.1 (of_decide_eq_true hc_70)
 refine WC.skip ?_
 exact WQ.there fun a ha => ⟨decide (s_1 = ([116, 104, 111, 115, 101] : Str)), hV, hS, ha.of_sub ⟨rfl, trivial⟩⟩
 intro hc_70
 replace hV := hV.2 (of_decide_eq_false hc_70)
 refine WC.sr ?_
 refine WL.run hS rfl rfl rfl (ex_s_eql rfl rfl) ?_
 refine WL.ma rfl rfl ?_
 refine WL.nx ?_
 refine WC.sub (m := [(3, sv s_1), (4, .bool (decide (s_1 = ([102, 117, 110] : Str))))]) ⟨rfl, rfl, trivial⟩ ?_
 refine WC.cond rfl ?_ ?_
 intro hc_69
 replace hV := hV.1 (of_decide_eq_true hc_69)
 refine WC.skip ?_
 exact WQ.there fun a ha => ⟨decide (s_1 = ([102, 117, 110] : Str)), hV, hS, ha.of_sub ⟨rfl, trivial⟩⟩
 intro hc_69
 replace hV := hV.2 (of_decide_eq_false hc_69)
 refine WC.sr ?_
 refine WL.run hS rfl rfl rfl (ex_s_eql rfl rfl) ?_
 refine WL.ma rfl rfl ?_
 refine WL.nx ?_
 refine WC.cond rfl ?_ ?_
 intro hc_68
 replace hV := hV.1 (of_decide_eq_true hc_68)
 refine WC.skip ?_
 exact WQ.there fun a ha => ⟨decide (s_1 = ([105, 102] : Str)), hV, hS, ha.of_sub ⟨rfl, trivial⟩⟩
 intro hc_68
 replace hV := hV.2 (of_decide_eq_false hc_68)
 refine WC.sr ?_
 refine WL.run hS rfl rfl rfl (ex_s_eql rfl rfl) ?_
 refine WL.ma rfl rfl ?_
 refine WL.nx ?_
 refine WC.cond rfl ?_ ?_
 intro hc_67
 replace hV := hV.1 (of_decide_eq_true hc_67)
 refine WC.skip ?_
 exact WQ.there fun a ha => ⟨decide (s_1 = ([116, 104, 101, 110] : Str)), hV, hS, ha.of_sub ⟨rfl, trivial⟩⟩
 intro hc_67
 replace hV := hV.2 (of_decide_eq_false hc_67)
 refine WC.sr ?_
 refine WL.run hS rfl rfl rfl (ex_s_eql rfl rfl) ?_
 refine WL.ma rfl rfl ?_
 refine WL.nx ?_
 refine WC.cond rfl ?_ ?_
 intro hc_66
 replace hV := hV.1 (of_decide_eq_true hc_66)
 refine WC.skip ?_
 exact WQ.there fun a ha => ⟨decide (s_1 = ([101, 108, 115, 101] : Str)), hV, hS, ha.of_sub ⟨rfl, trivial⟩⟩
 intro hc_66
 replace hV := hV.2 (of_decide_eq_false hc_66)
 refine WC.sr ?_
 refine WL.run hS rfl rfl rfl (ex_s_eql rfl rfl) ?_
 refine WL.ma rfl rfl ?_
 refine WL.nx ?_
 refine WC.cond rfl ?_ ?_
 intro hc_65
 replace hV := hV.1 (of_decide_eq_true hc_65)
 refine WC.skip ?_
 exact WQ.there fun a ha => ⟨decide (s_1 = ([108, 101, 116] : Str)), hV, hS, ha.of_sub ⟨rfl, trivial⟩⟩
 intro hc_65
 replace hV := hV.2 (of_decide_eq_false hc_65)
 refine WC.sr ?_
 refine WL.run hS rfl rfl rfl (ex_s_eql rfl rfl) ?_
 refine WL.ma rfl rfl ?_
 refine WL.nx ?_
 refine WC.cond rfl ?_ ?_
 intro hc_64
 replace hV := hV.1 (of_decide_eq_true hc_64)
 refine WC.skip ?_
 exact WQ.there fun a ha => ⟨decide (s_1 = ([110, 105, 108] : Str)), hV, hS, ha.of_sub ⟨rfl, trivial⟩⟩
 intro hc_64
 replace hV := hV.2 (of_decide_eq_false hc_64)
 refine WC.sr ?_
 refine WL.run hS rfl rfl rfl (ex_s_eql rfl rfl) ?_
 refine WL.ma rfl rfl ?_
 refine WL.nx ?_
 refine WC.cond rfl ?_ ?_
 intro hc_63
 replace hV := hV.1 (of_decide_eq_true hc_63)
 refine WC.skip ?_
 exact WQ.there fun a ha => ⟨decide (s_1 = ([116, 114, 117, 101] : Str)), hV, hS, ha.of_sub ⟨rfl, trivial⟩⟩
 intro hc_63
 replace hV := hV.2 (of_decide_eq_false hc_63)
 refine WC.sr ?_
 refine WL.run hS rfl rfl rfl (ex_s_eql rfl rfl) ?_
 refine WL.ma rfl rfl ?_
 refine WL.nx ?_
 refine WC.cond rfl ?_ ?_
 intro hc_62
 replace hV := hV.1 (of_decide_eq_true hc_62)
 refine WC.skip ?_
 exact WQ.there fun a ha => ⟨decide (s_1 = ([102, 97, 108, 115, 101] : Str)), hV, hS, ha.of_sub ⟨rfl, trivial⟩⟩
 intro hc_62
 replace hV := hV.2 (of_decide_eq_false hc_62)
 refine WC.sr ?_
 refine WL.run hS rfl rfl rfl (ex_s_eql rfl rfl) ?_
 refine WL.ma rfl rfl ?_
 refine WL.nx ?_
 refine WC.cond rfl ?_ ?_
 intro hc_61
 replace hV := hV.1 (of_decide_eq_true hc_61)
 refine WC.skip ?_
 exact WQ.there fun a ha => ⟨decide (s_1 = ([115, 105, 122, 101] : Str)), hV, hS, ha.of_sub ⟨rfl, trivial⟩⟩
 intro hc_61
 replace hV := hV.2 (of_decide_eq_false hc_61)
 refine WC.sr ?_
 refine WL.run hS rfl rfl rfl (ex_s_eql rfl rfl) ?_
 refine WL.ma rfl rfl ?_
 refine WL.nx ?_
 refine WC.cond rfl ?_ ?_
 intro hc_60
 replace hV := hV.1 (of_decide_eq_true hc_60)
 refine WC.skip ?_
 exact WQ.there fun a ha => ⟨decide (s_1 = ([108, 101, 110] : Str)), hV, hS, ha.of_sub ⟨rfl, trivial⟩⟩
 intro hc_60
 replace hV := hV.2 (of_decide_eq_false hc_60)
 refine WC.sr ?_
 refine WL.run hS rfl rfl rfl (ex_s_eql rfl rfl) ?_
 refine WL.ma rfl rfl ?_
 refine WL.nx ?_
 refine WC.sub (m := [(3, sv s_1), (4, .bool (decide (s_1 = ([104, 101, 97, 100] : Str))))]) ⟨rfl, rfl, trivial⟩ ?_
 refine WC.cond rfl ?_ ?_
 intro hc_59
 replace hV := hV.1 (of_decide_eq_true hc_59)
 refine WC.skip ?_
 exact WQ.there fun a ha => ⟨decide (s_1 = ([104, 101, 97, 100] : Str)), hV, hS, ha.of_sub ⟨rfl, trivial⟩⟩
 intro hc_59
 replace hV := hV.2 (of_decide_eq_false hc_59)
 refine WC.sr ?_
 refine WL.run hS rfl rfl rfl (ex_s_eql rfl rfl) ?_
 refine WL.ma rfl rfl ?_
 refine WL.nx ?_
 refine WC.cond rfl ?_ ?_
 intro hc_58
 replace hV := hV.1 (of_decide_eq_true hc_58)
 refine WC.skip ?_
 exact WQ.there fun a ha => ⟨decide (s_1 = ([116, 97, 105, 108] : Str)), hV, hS, ha.of_sub ⟨rfl, trivial⟩⟩
 intro hc_58
 replace hV := hV.2 (of_decide_eq_false hc_58)
 refine WC.sr ?_
 refine WL.run hS rfl rfl rfl (ex_s_eql rfl rfl) ?_
 refine WL.ma rfl rfl ?_
 refine WL.nx ?_
 refine WC.cond rfl ?_ ?_
 intro hc_57
 replace hV := hV.1 (of_decide_eq_true hc_57)
 refine WC.skip ?_
 exact WQ.there fun a ha => ⟨decide (s_1 = ([97, 112, 112, 101, 110, 100] : Str)), hV, hS, ha.of_sub ⟨rfl, trivial⟩⟩
 intro hc_57
 replace hV := hV.2 (of_decide_eq_false hc_57)
 refine WC.sr ?_
 refine WL.run hS rfl rfl rfl (ex_s_eql rfl rfl) ?_
 refine WL.ma rfl rfl ?_
 refine WL.nx ?_
 refine WC.cond rfl ?_ ?_
 intro hc_56
 replace hV := hV.1 (of_decide_eq_true hc_56)
 refine WC.skip ?_
 exact WQ.there fun a ha => ⟨decide (s_1 = ([118, 97, 108, 117, 101, 115] : Str)), hV, hS, ha.of_sub ⟨rfl, trivial⟩⟩
 intro hc_56
 replace hV := hV.2 (of_decide_eq_false hc_56)
 refine WC.region ?_
 refine WL.run hS rfl rfl rfl (ex_s_eql rfl rfl) ?_
 refine WL.ma rfl rfl ?_
 refine WL.nil ?_
 exact WQ.there fun a ha => ⟨decide (s_1 = ([115, 101, 113, 115] : Str)), hV, hS, ha.of_sub ⟨rfl, trivial⟩⟩

theorem S_number {w0 : World} {H : View} {L : Seg} {w : World} {b_2 : Nat} {text_4 : Str} {xat_5 : Int} {deep_7 : Int} {heavy_9 : Bool} {w_10 : Str} {minus_11 : Bool} {E : Int → Int → Prop} {Q : Val → Int → Prop} (hr_6 : I64 xat_5) (hr_8 : I64 deep_7) (hN : GlobN w0 H) (hS : St w0 H ([(b_2, oc #[sv text_4, i6 xat_5, i6 deep_7, .bool heavy_9] 62)] ++ L) w) (hV : V_number text_4 xat_5 deep_7 heavy_9 w_10 minus_11 E Q) :
 Calls Tryz.prog 105 #[(pq b_2), sv w_10, .bool minus_11] w fun e w' => (∃ (r1 : Val) (r2 : Int) (u1 : Value) (H' : View), Q r1 r2 ∧ e = .returned (.agg #[u1]) ∧ View.le H H' ∧ IsW H' u1 r1 ∧ I64 r2 ∧ St w0 H' ([(b_2, oc #[sv text_4, i6 r2, i6 deep_7, .bool heavy_9] 62)] ++ L) w') ∨ (∃ e1 a1, E e1 a1 ∧ e = .panicked (faultC e1 a1) ∧ ∃ H1, View.le H H1 ∧ St w0 H1 L w') := by
 unfold V_number at hV
 refine enter Tryz.func105 rfl Tryz.ntmps105 rfl (lk_args_cons (d := 0) (v := (pq b_2)) rfl (lk_args_cons (d := 1) (v := sv w_10) rfl (lk_args_cons (d := 2) (v := .bool minus_11) rfl (lk_args_nil _)))) ?_
 refine WC.sr ?_
 refine WL.alloc (arr := #[.nilIface]) rfl Tryz.zeroValue25 rfl hS ?_
 clear hS
 intro b_12 w hS
 refine WL.nx ?_
 refine WC.seq ?_
 refine WC.sr ?_
 refine WL.mv rfl rfl ?_
 obtain ⟨hl_14, hV⟩ := hV
 refine WL.run hS rfl rfl rfl (ex_s_len Tryz.underlying9 rfl) ?_
 refine WL.mv rfl rfl ?_
 refine WL.nx ?_
 refine WC.block ?_
 replace hS := hS.f2
 obtain ⟨I_129, mu_130, hI_242, hV⟩ := hV
 refine WC.loop (σ := Int) (fun s a w => ∃ (x_71 : Int), s = x_71 ∧ I_129 x_71 ∧ I64 x_71 ∧ St w0 H ([(b_2, oc #[sv text_4, i6 xat_5, i6 deep_7, .bool heavy_9] 62)] ++ ([(b_12, oc #[.nilIface] 25)] ++ L)) w ∧ Fr 85 [(0, (pq b_2)), (1, sv w_10), (2, .bool minus_11), (6, (pq b_12)), (11, i6 (w_10.length : Int)), (12, i6 x_71)] a) mu_130 (0 : Int) ?_ ?_
 exact fun a ha => ⟨(0 : Int), rfl, hI_242, (show I64 (0 : Int) by unfold I64; omega), hS, ha.of_sub ⟨rfl, rfl, rfl, rfl, rfl, rfl, trivial⟩⟩
 clear hS hI_242
 rintro x_71 a w ⟨_, rfl, hI, hr_72, hS, ha⟩
 refine in_frame ha ?_
 clear ha
 replace hV := hV _ hI
 clear hI
 refine WC.sr ?_
 refine WL.run hS rfl rfl rfl (ex_lss rfl rfl) ?_
 refine WL.nx ?_
 refine WC.seq ?_
 refine WC.cond rfl ?_ ?_
 intro hc_241
 replace hV := hV.1 (of_decide_eq_true hc_241)
 refine WC.skip ?_
 refine WQ.next ?_
 obtain ⟨J_159, hJ_160, hV⟩ := hV
 refine WC.meet (fun a w => J_159 () ∧ St w0 H ([(b_2, oc #[sv text_4, i6 xat_5, i6 deep_7, .bool heavy_9] 62)] ++ ([(b_12, oc #[.nilIface] 25)] ++ L)) w ∧ Fr 85 [(0, (pq b_2)), (1, sv w_10), (2, .bool minus_11), (6, (pq b_12)), (11, i6 (w_10.length : Int)), (12, i6 x_71)] a) ?_ ?_
 rintro a w ⟨hI, hS, ha⟩
 refine in_frame ha ?_
 clear ha hV
 have hV := hJ_160 _ hI
 clear hI hJ_160
 refine WC.region ?_
 refine WL.run hS rfl rfl rfl (ex_wrap_add rfl rfl) ?_
 refine WL.mv rfl rfl ?_
 refine WL.nil ?_
 replace hS := hS.f2.f2
 exact WQ.there fun a ha => ⟨(IntKind.i64.wrap (x_71 + (1 : Int))), ⟨(IntKind.i64.wrap (x_71 + (1 : Int))), rfl, hV.1, (wrap_I64 _), hS, ha.of_sub ⟨rfl, rfl, rfl, rfl, rfl, rfl, trivial⟩⟩, hV.2⟩
 clear hJ_160
 refine WC.block ?_
 refine WC.sr ?_
 refine WL.mv rfl rfl ?_
 refine WL.ma rfl rfl ?_
 refine WL.nx ?_
 obtain ⟨J_170, hJ_171, hV⟩ := hV
 refine WC.meet (fun a w => ∃ (x_169 : Bool), J_170 x_169 ∧ St w0 H ([(b_2, oc #[sv text_4, i6 xat_5, i6 deep_7, .bool heavy_9] 62)] ++ ([(b_12, oc #[.nilIface] 25)] ++ L)) w ∧ Fr 85 [(0, (pq b_2)), (1, sv w_10), (2, .bool minus_11), (6, (pq b_12)), (11, i6 (w_10.length : Int)), (12, i6 x_71), (36, .bool x_169)] a) ?_ ?_
 rintro a w ⟨x_169, hI, hS, ha⟩
 refine in_frame ha ?_
 clear ha hV
 have hV := hJ_171 _ hI
 clear hI hJ_171
 refine WC.cond rfl ?_ ?_
 intro hc_186
 replace hV := hV.1 hc_186
 refine WC.region ?_
 refine WL.mv rfl rfl ?_
 refine WL.callP rfl rfl rfl (enters0 (vs := [(pq b_2), i6 (1 : Int)]) Tryz.call25 ⟨rfl, rfl, trivial⟩) (S_fail hr_6 hr_8 (show I64 (1 : Int) by unfold I64; omega) hS hV) (by rintro _ w ⟨e_181, xat_182, hE_183, rfl, H_184, le_185, hS⟩; exact ⟨_, rfl, WQ.of fun a ha => And.intro ha.defers (.inr ⟨e_181, xat_182, hE_183, rfl, _, ((View.le.refl _).trans le_185), hS.drop⟩)⟩) ?_
 clear hV hS
 rintro _ w ⟨hV, rfl, hS⟩
 refine ⟨_, rfl, ?_⟩
 refine WL.nil ?_
 refine WQ.out nofun ?_
 replace hS := hS.f2.f2
 exact WQ.there fun a ha => ⟨hV, hS, ha.of_sub ⟨rfl, rfl, rfl, rfl, rfl, rfl, trivial⟩⟩
 intro hc_186
 replace hV := hV.2 hc_186
 refine WC.skip ?_
 refine WQ.out nofun ?_
 replace hS := hS.f2.f2
 exact WQ.there fun a ha => ⟨hV, hS, ha.of_sub ⟨rfl, rfl, rfl, rfl, rfl, rfl, trivial⟩⟩
 clear hJ_171
 refine WC.region ?_
 refine WL.mv rfl rfl ?_
 refine WL.mv rfl rfl ?_
 obtain ⟨hin_172, hV⟩ := hV
 refine WL.run hS rfl rfl rfl (ex_s_index Tryz.underlying9 rfl rfl hin_172) ?_
 refine WL.run hS rfl rfl rfl (ex_lss rfl rfl) ?_
 refine WL.mv rfl rfl ?_
 rcases Bool.eq_false_or_eq_true (decide ((byte w_10 x_71) < (48 : Int))) with hg_173 | hg_173
 replace hV := hV.1 (of_decide_eq_true hg_173)
 refine WL.skip_g rfl rfl rfl hg_173 rfl rfl ?_
 refine WL.skip_g rfl rfl rfl hg_173 rfl rfl ?_
 refine WL.skip_g rfl rfl rfl hg_173 rfl rfl ?_
 refine WL.skip_g rfl rfl rfl hg_173 rfl rfl ?_
 refine WL.run hS rfl rfl rfl (ex_pick_t rfl hg_173 rfl) ?_
 refine WL.mv rfl rfl ?_
 refine WL.skip_g rfl rfl rfl rfl rfl rfl ?_
 refine WL.skip_g rfl rfl rfl rfl rfl rfl ?_
 refine WL.skip_g rfl rfl rfl rfl rfl rfl ?_
 refine WL.skip_g rfl rfl rfl rfl rfl rfl ?_
 refine WL.skip_u rfl rfl rfl rfl rfl ?_
 refine WL.skip_u rfl rfl rfl rfl rfl ?_
 refine WL.skip_u rfl rfl rfl rfl rfl ?_
 refine WL.skip_u rfl rfl rfl rfl rfl ?_
 refine WL.skip_u rfl rfl rfl rfl rfl ?_
 refine WL.skip_g rfl rfl rfl rfl rfl rfl ?_
 refine WL.run hS rfl rfl rfl (ex_pick_t rfl rfl rfl) ?_
 refine WL.nil ?_
 replace hS := hS.f2.f2
 exact WQ.there fun a ha => ⟨true, hV, hS, ha.of_sub ⟨rfl, rfl, rfl, rfl, rfl, rfl, rfl, trivial⟩⟩
 replace hV := hV.2 (of_decide_eq_false hg_173)
 refine WL.unguard rfl rfl hg_173 ?_
 refine WL.mv rfl rfl ?_
 refine WL.unguard rfl rfl hg_173 ?_
 refine WL.mv rfl rfl ?_
 refine WL.unguard rfl rfl hg_173 ?_
 obtain ⟨hin_174, hV⟩ := hV
 refine WL.run hS rfl rfl rfl (ex_s_index Tryz.underlying9 rfl rfl hin_174) ?_
 refine WL.unguard rfl rfl hg_173 ?_
 refine WL.run hS rfl rfl rfl (ex_gtr rfl rfl) ?_
 refine WL.run hS rfl rfl rfl (ex_pick_f rfl hg_173 rfl) ?_
 refine WL.mv rfl rfl ?_
 rcases Bool.eq_false_or_eq_true (decide ((57 : Int) < (byte w_10 x_71))) with hg_175 | hg_175
 replace hV := hV.1 (of_decide_eq_true hg_175)
 refine WL.skip_g rfl rfl rfl hg_175 rfl rfl ?_
 refine WL.skip_g rfl rfl rfl hg_175 rfl rfl ?_
 refine WL.skip_g rfl rfl rfl hg_175 rfl rfl ?_
 refine WL.skip_g rfl rfl rfl hg_175 rfl rfl ?_
 refine WL.skip_u rfl rfl rfl rfl rfl ?_
 refine WL.skip_u rfl rfl rfl rfl rfl ?_
 refine WL.skip_u rfl rfl rfl rfl rfl ?_
 refine WL.skip_u rfl rfl rfl rfl rfl ?_
 refine WL.skip_u rfl rfl rfl rfl rfl ?_
 refine WL.skip_g rfl rfl rfl hg_175 rfl rfl ?_
 refine WL.run hS rfl rfl rfl (ex_pick_t rfl hg_175 rfl) ?_
 refine WL.nil ?_
 replace hS := hS.f2.f2
 exact WQ.there fun a ha => ⟨true, hV, hS, ha.of_sub ⟨rfl, rfl, rfl, rfl, rfl, rfl, rfl, trivial⟩⟩
 replace hV := hV.2 (of_decide_eq_false hg_175)
 refine WL.unguard rfl rfl hg_175 ?_
 refine WL.mv rfl rfl ?_
 refine WL.unguard rfl rfl hg_175 ?_
 obtain ⟨hin_176, hV⟩ := hV
 refine WL.run hS rfl rfl rfl (ex_s_index Tryz.underlying9 rfl rfl hin_176) ?_
 refine WL.unguard rfl rfl hg_175 ?_
 refine WL.run hS rfl rfl rfl (ex_eql rfl rfl) ?_
 refine WL.unguard rfl rfl hg_175 ?_
 refine WL.mv rfl rfl ?_
 rcases Bool.eq_false_or_eq_true (decide ((byte w_10 (0 : Int)) = (48 : Int))) with hg_177 | hg_177
 replace hV := hV.1 (of_decide_eq_true hg_177)
 refine WL.unguard rfl rfl hg_177 ?_
 refine WL.mv rfl rfl ?_
 refine WL.unguard rfl rfl hg_177 ?_
 refine WL.run hS rfl rfl rfl (ex_gtr rfl rfl) ?_
 refine WL.unguard rfl rfl hg_177 ?_
 refine WL.mv rfl rfl ?_
 rcases Bool.eq_false_or_eq_true (decide ((0 : Int) < x_71)) with hg_179 | hg_179
 replace hV := hV.1 (of_decide_eq_true hg_179)
 refine WL.skip_g rfl rfl rfl hg_179 rfl rfl ?_
 refine WL.unguard rfl rfl hg_177 ?_
 refine WL.run hS rfl rfl rfl (ex_pick_t rfl hg_179 rfl) ?_
 refine WL.unguard rfl rfl hg_175 ?_
 refine WL.run hS rfl rfl rfl (ex_pick_t rfl hg_177 rfl) ?_
 refine WL.run hS rfl rfl rfl (ex_pick_f rfl hg_175 rfl) ?_
 refine WL.nil ?_
 replace hS := hS.f2.f2
 exact WQ.there fun a ha => ⟨true, hV, hS, ha.of_sub ⟨rfl, rfl, rfl, rfl, rfl, rfl, rfl, trivial⟩⟩
 replace hV := hV.2 (of_decide_eq_false hg_179)
 refine WL.unguard rfl rfl hg_179 ?_
 refine WL.mv rfl rfl ?_
 refine WL.unguard rfl rfl hg_177 ?_
 refine WL.run hS rfl rfl rfl (ex_pick_f rfl hg_179 rfl) ?_
 refine WL.unguard rfl rfl hg_175 ?_
 refine WL.run hS rfl rfl rfl (ex_pick_t rfl hg_177 rfl) ?_
 refine WL.run hS rfl rfl rfl (ex_pick_f rfl hg_175 rfl) ?_
 refine WL.nil ?_
 replace hS := hS.f2.f2
 exact WQ.there fun a ha => ⟨minus_11, hV, hS, ha.of_sub ⟨rfl, rfl, rfl, rfl, rfl, rfl, rfl, trivial⟩⟩
 replace hV := hV.2 (of_decide_eq_false hg_177)
 refine WL.skip_g rfl rfl rfl hg_177 rfl rfl ?_
 refine WL.skip_g rfl rfl rfl hg_177 rfl rfl ?_
 refine WL.skip_g rfl rfl rfl hg_177 rfl rfl ?_
 refine WL.skip_u rfl rfl rfl rfl rfl ?_
 refine WL.skip_g rfl rfl rfl hg_177 rfl rfl ?_
 refine WL.unguard rfl rfl hg_175 ?_
 refine WL.run hS rfl rfl rfl (ex_pick_f rfl hg_177 rfl) ?_
 refine WL.run hS rfl rfl rfl (ex_pick_f rfl hg_175 rfl) ?_
 refine WL.nil ?_
 replace hS := hS.f2.f2
 exact WQ.there fun a ha => ⟨false, hV, hS, ha.of_sub ⟨rfl, rfl, rfl, rfl, rfl, rfl, rfl, trivial⟩⟩
 intro hc_241
 replace hV := hV.2 (of_decide_eq_false hc_241)
 refine WC.exit ?_
 refine WQ.pass nofun ?_
 refine WQ.pass nofun ?_
 refine WQ.hit ?_
 refine WQ.next ?_
 refine WC.sr ?_
 refine WL.mv rfl rfl ?_
 refine WL.call rfl rfl rfl (enters0 (vs := [sv w_10, i6 (10 : Int), i6 (64 : Int)]) Tryz.call194 ⟨rfl, rfl, rfl, trivial⟩) (S_ParseUint (show I64 (10 : Int) by unfold I64; omega) (show I64 (64 : Int) by unfold I64; omega) hN hS hV) ?_
 clear hV hS
 rintro _ w ⟨r_187, r_189, u_190, hV, rfl, hr_188, h_191, hS⟩
 refine ⟨_, rfl, ?_⟩
 refine WL.mv rfl rfl ?_
 refine WL.run hS rfl rfl rfl (ex_extract rfl rfl) ?_
 refine WL.run hS rfl rfl rfl (ex_extract rfl rfl) ?_
 refine WL.ma rfl rfl ?_
 refine WL.ma rfl rfl ?_
 refine WL.nx ?_
 obtain ⟨J_209, hJ_210, hV⟩ := hV
 refine WC.meet (fun a w => J_209 () ∧ St w0 H ([(b_2, oc #[sv text_4, i6 xat_5, i6 deep_7, .bool heavy_9] 62)] ++ ([(b_12, oc #[.nilIface] 25)] ++ L)) w ∧ Fr 85 [(0, (pq b_2)), (1, sv w_10), (2, .bool minus_11), (6, (pq b_12)), (8, .int .u64 r_187)] a) ?_ ?_
 rintro a w ⟨hI, hS, ha⟩
 refine in_frame ha ?_
 clear ha hV
 have hV := hJ_210 _ hI
 clear hI hJ_210
 refine WC.sr ?_
 refine WL.mv rfl rfl ?_
 refine WL.run hS rfl rfl rfl (ex_nilCheck rfl) ?_
 refine WL.run hS rfl rfl rfl (ex_fieldAddr (o' := 1) Tryz.underlying62 rfl Tryz.sizeOf3 rfl rfl) ?_
 refine WL.run hS rfl rfl rfl (ex_load_box Tryz.isAgg3 rfl rfl) ?_
 refine WL.mv rfl rfl ?_
 obtain ⟨hl_227, hV⟩ := hV
 refine WL.run hS rfl rfl rfl (ex_s_len Tryz.underlying9 rfl) ?_
 refine WL.run hS rfl rfl rfl (ex_wrap_add rfl rfl) ?_
 refine WL.run hS rfl rfl rfl (ex_nilCheck rfl) ?_
 refine WL.run hS rfl rfl rfl (ex_fieldAddr (o' := 1) Tryz.underlying62 rfl Tryz.sizeOf3 rfl rfl) ?_
 refine WL.store_box (pre := [sv text_4]) (old := [i6 xat_5]) (rst := [i6 deep_7, .bool heavy_9]) (cs := [i6 (IntKind.i64.wrap (xat_5 + (w_10.length : Int)))]) (arr' := #[sv text_4, i6 (IntKind.i64.wrap (xat_5 + (w_10.length : Int))), i6 deep_7, .bool heavy_9]) Tryz.sizeOf3 rfl rfl rfl ⟨rfl, trivial⟩ rfl rfl rfl rfl hS ?_
 clear hS
 intro w hS
 refine WL.nx ?_
 refine WC.sub (m := [(0, (pq b_2)), (2, .bool minus_11), (6, (pq b_12)), (8, .int .u64 r_187)]) ⟨rfl, rfl, rfl, rfl, trivial⟩ ?_
 refine WC.seq ?_
 refine WC.sr ?_
 refine WL.mv rfl rfl ?_
 refine WL.nx ?_
 refine WC.cond rfl ?_ ?_
 intro hc_240
 replace hV := hV.1 hc_240
 refine WC.sr ?_
 refine WL.mv rfl rfl ?_
 refine WL.run hS rfl rfl rfl (ex_nilCheck rfl) ?_
 refine WL.run hS rfl rfl rfl (ex_fieldAddr (o' := 1) Tryz.underlying62 rfl Tryz.sizeOf3 rfl rfl) ?_
 refine WL.run hS rfl rfl rfl (ex_load_box Tryz.isAgg3 rfl rfl) ?_
 refine WL.run hS rfl rfl rfl (ex_wrap_add rfl rfl) ?_
 refine WL.run hS rfl rfl rfl (ex_nilCheck rfl) ?_
 refine WL.run hS rfl rfl rfl (ex_fieldAddr (o' := 1) Tryz.underlying62 rfl Tryz.sizeOf3 rfl rfl) ?_
 refine WL.store_box (pre := [sv text_4]) (old := [i6 (IntKind.i64.wrap (xat_5 + (w_10.length : Int)))]) (rst := [i6 deep_7, .bool heavy_9]) (cs := [i6 (IntKind.i64.wrap ((IntKind.i64.wrap (xat_5 + (w_10.length : Int))) + (1 : Int)))]) (arr' := #[sv text_4, i6 (IntKind.i64.wrap ((IntKind.i64.wrap (xat_5 + (w_10.length : Int))) + (1 : Int))), i6 deep_7, .bool heavy_9]) Tryz.sizeOf3 rfl rfl rfl ⟨rfl, trivial⟩ rfl rfl rfl rfl hS ?_
 clear hS
 intro w hS
 refine WL.nx ?_
 refine WC.sub (m := [(6, (pq b_12)), (8, .int .u64 r_187)]) ⟨rfl, rfl, trivial⟩ ?_
 refine WC.sr ?_
 refine WL.mv rfl rfl ?_
 refine WL.run hS rfl rfl rfl (ex_conv_int Tryz.underlying115 Tryz.underlying2 rfl) ?_
 refine WL.run hS rfl rfl rfl (ex_wneg rfl (wrap_I64 _)) ?_
 refine WL.call rfl rfl rfl (enters0 (vs := [i6 (wneg (IntKind.i64.wrap r_187))]) Tryz.call100 ⟨rfl, trivial⟩) (S_Number (wneg_I64 _ (wrap_I64 _)) hS hV) ?_
 clear hV hS
 rintro _ w ⟨r_228, u_229, H_231, hV, rfl, le_232, h_230, hS⟩
 refine ⟨_, rfl, ?_⟩
 replace hS := hS.f2
 refine WL.store_box (pre := []) (old := [.nilIface]) (rst := []) (cs := [u_229]) (arr' := #[u_229]) Tryz.sizeOf25 rfl rfl rfl ⟨(IsW.one h_230), trivial⟩ rfl rfl rfl rfl hS ?_
 clear hS
 intro w hS
 refine WL.nx ?_
 refine WC.ret ?_
 refine WQ.pass nofun ?_
 have hl_233 := load_own_agg (P := Tryz.prog) (cs := [u_229]) Tryz.isAgg25 Tryz.sizeOf25 hS rfl
 replace hS := hS.drop
 exact leavec1 (il) rfl rfl hl_233 (.inl ⟨r_228, (IntKind.i64.wrap ((IntKind.i64.wrap (xat_5 + (w_10.length : Int))) + (1 : Int))), u_229, H_231, hV, rfl, ((View.le.refl _).trans le_232), h_230, (wrap_I64 _), hS⟩)
 intro hc_240
 replace hV := hV.2 hc_240
 refine WC.skip ?_
 refine WQ.next ?_
 refine WC.sr ?_
 refine WL.mv rfl rfl ?_
 refine WL.run hS rfl rfl rfl (ex_conv_int Tryz.underlying115 Tryz.underlying2 rfl) ?_
 refine WL.call rfl rfl rfl (enters0 (vs := [i6 (IntKind.i64.wrap r_187)]) Tryz.call100 ⟨rfl, trivial⟩) (S_Number (wrap_I64 _) hS hV) ?_
 clear hV hS
 rintro _ w ⟨r_234, u_235, H_237, hV, rfl, le_238, h_236, hS⟩
 refine ⟨_, rfl, ?_⟩
 replace hS := hS.f2
 refine WL.store_box (pre := []) (old := [.nilIface]) (rst := []) (cs := [u_235]) (arr' := #[u_235]) Tryz.sizeOf25 rfl rfl rfl ⟨(IsW.one h_236), trivial⟩ rfl rfl rfl rfl hS ?_
 clear hS
 intro w hS
 refine WL.nx ?_
 refine WC.ret ?_
 have hl_239 := load_own_agg (P := Tryz.prog) (cs := [u_235]) Tryz.isAgg25 Tryz.sizeOf25 hS rfl
 replace hS := hS.drop
 exact leavec1 (il) rfl rfl hl_239 (.inl ⟨r_234, (IntKind.i64.wrap (xat_5 + (w_10.length : Int))), u_235, H_237, hV, rfl, ((View.le.refl _).trans le_238), h_236, (wrap_I64 _), hS⟩)
 clear hJ_210
 obtain ⟨J_215, hJ_216, hV⟩ := hV
 refine WC.meet (fun a w => ∃ (x_214 : Bool), J_215 x_214 ∧ St w0 H ([(b_2, oc #[sv text_4, i6 xat_5, i6 deep_7, .bool heavy_9] 62)] ++ ([(b_12, oc #[.nilIface] 25)] ++ L)) w ∧ Fr 85 [(0, (pq b_2)), (1, sv w_10), (2, .bool minus_11), (6, (pq b_12)), (8, .int .u64 r_187), (58, .bool x_214)] a) ?_ ?_
 rintro a w ⟨x_214, hI, hS, ha⟩
 refine in_frame ha ?_
 clear ha hV
 have hV := hJ_216 _ hI
 clear hI hJ_216
 refine WC.cond rfl ?_ ?_
 intro hc_226
 replace hV := hV.1 hc_226
 refine WC.region ?_
 refine WL.mv rfl rfl ?_
 refine WL.callP rfl rfl rfl (enters0 (vs := [(pq b_2), i6 (5 : Int)]) Tryz.call25 ⟨rfl, rfl, trivial⟩) (S_fail hr_6 hr_8 (show I64 (5 : Int) by unfold I64; omega) hS hV) (by rintro _ w ⟨e_221, xat_222, hE_223, rfl, H_224, le_225, hS⟩; exact ⟨_, rfl, WQ.of fun a ha => And.intro ha.defers (.inr ⟨e_221, xat_222, hE_223, rfl, _, ((View.le.refl _).trans le_225), hS.drop⟩)⟩) ?_
 clear hV hS
 rintro _ w ⟨hV, rfl, hS⟩
 refine ⟨_, rfl, ?_⟩
 refine WL.nil ?_
 replace hS := hS.f2.f2
 exact WQ.there fun a ha => ⟨hV, hS, ha.of_sub ⟨rfl, rfl, rfl, rfl, rfl, trivial⟩⟩
 intro hc_226
 replace hV := hV.2 hc_226
 refine WC.skip ?_
 replace hS := hS.f2.f2
 exact WQ.there fun a ha => ⟨hV, hS, ha.of_sub ⟨rfl, rfl, rfl, rfl, rfl, trivial⟩⟩
 clear hJ_216
 refine WC.region ?_
 refine WL.mv rfl rfl ?_
 refine WL.run hS rfl rfl rfl (ex_aerr_neq Tryz.iface27 rfl h_191) ?_
 refine WL.mv rfl rfl ?_
 rcases Bool.eq_false_or_eq_true (!r_189) with hg_217 | hg_217
 replace hV := hV.1 hg_217
 refine WL.skip_g rfl rfl rfl hg_217 rfl rfl ?_
 refine WL.skip_g rfl rfl rfl hg_217 rfl rfl ?_
 refine WL.skip_g rfl rfl rfl hg_217 rfl rfl ?_
 refine WL.skip_u rfl rfl rfl rfl rfl ?_
 refine WL.skip_u rfl rfl rfl rfl rfl ?_
 refine WL.skip_u rfl rfl rfl rfl rfl ?_
 refine WL.skip_u rfl rfl rfl rfl rfl ?_
 refine WL.skip_u rfl rfl rfl rfl rfl ?_
 refine WL.skip_u rfl rfl rfl rfl rfl ?_
 refine WL.skip_g rfl rfl rfl hg_217 rfl rfl ?_
 refine WL.run hS rfl rfl rfl (ex_pick_t rfl hg_217 rfl) ?_
 refine WL.nil ?_
 replace hS := hS.f2.f2
 exact WQ.there fun a ha => ⟨true, hV, hS, ha.of_sub ⟨rfl, rfl, rfl, rfl, rfl, rfl, trivial⟩⟩
 replace hV := hV.2 hg_217
 refine WL.unguard rfl rfl hg_217 ?_
 refine WL.mv rfl rfl ?_
 refine WL.unguard rfl rfl hg_217 ?_
 refine WL.run hS rfl rfl rfl (ex_gtr rfl rfl) ?_
 refine WL.unguard rfl rfl hg_217 ?_
 refine WL.mv rfl rfl ?_
 rcases Bool.eq_false_or_eq_true (decide ((9223372036854775807 : Int) < r_187)) with hg_218 | hg_218
 replace hV := hV.1 (of_decide_eq_true hg_218)
 refine WL.unguard rfl rfl hg_218 ?_
 refine WL.mv rfl rfl ?_
 refine WL.unguard rfl rfl hg_218 ?_
 refine WL.mv rfl rfl ?_
 rcases Bool.eq_false_or_eq_true minus_11 with hg_219 | hg_219
 replace hV := hV.1 hg_219
 refine WL.unguard rfl rfl hg_219 ?_
 refine WL.mv rfl rfl ?_
 refine WL.unguard rfl rfl hg_219 ?_
 refine WL.run hS rfl rfl rfl (ex_eql rfl rfl) ?_
 refine WL.unguard rfl rfl hg_218 ?_
 refine WL.run hS rfl rfl rfl (ex_pick_t rfl hg_219 rfl) ?_
 refine WL.unguard rfl rfl hg_218 ?_
 refine WL.run hS rfl rfl rfl (ex_not rfl) ?_
 refine WL.unguard rfl rfl hg_217 ?_
 refine WL.run hS rfl rfl rfl (ex_pick_t rfl hg_218 rfl) ?_
 refine WL.run hS rfl rfl rfl (ex_pick_f rfl hg_217 rfl) ?_
 refine WL.nil ?_
 replace hS := hS.f2.f2
 exact WQ.there fun a ha => ⟨(!(decide (r_187 = (9223372036854775808 : Int)))), hV, hS, ha.of_sub ⟨rfl, rfl, rfl, rfl, rfl, rfl, trivial⟩⟩
 replace hV := hV.2 hg_219
 refine WL.skip_g rfl rfl rfl hg_219 rfl rfl ?_
 refine WL.skip_g rfl rfl rfl hg_219 rfl rfl ?_
 refine WL.unguard rfl rfl hg_218 ?_
 refine WL.run hS rfl rfl rfl (ex_pick_f rfl hg_219 rfl) ?_
 refine WL.unguard rfl rfl hg_218 ?_
 refine WL.run hS rfl rfl rfl (ex_not rfl) ?_
 refine WL.unguard rfl rfl hg_217 ?_
 refine WL.run hS rfl rfl rfl (ex_pick_t rfl hg_218 rfl) ?_
 refine WL.run hS rfl rfl rfl (ex_pick_f rfl hg_217 rfl) ?_
 refine WL.nil ?_
 replace hS := hS.f2.f2
 exact WQ.there fun a ha => ⟨(!false), hV, hS, ha.of_sub ⟨rfl, rfl, rfl, rfl, rfl, rfl, trivial⟩⟩
 replace hV := hV.2 (of_decide_eq_false hg_218)
 refine WL.skip_g rfl rfl rfl hg_218 rfl rfl ?_
 refine WL.skip_g rfl rfl rfl hg_218 rfl rfl ?_
 refine WL.skip_u rfl rfl rfl rfl rfl ?_
 refine WL.skip_u rfl rfl rfl rfl rfl ?_
 refine WL.skip_g rfl rfl rfl hg_218 rfl rfl ?_
 refine WL.skip_g rfl rfl rfl hg_218 rfl rfl ?_
 refine WL.unguard rfl rfl hg_217 ?_
 refine WL.run hS rfl rfl rfl (ex_pick_f rfl hg_218 rfl) ?_
 refine WL.run hS rfl rfl rfl (ex_pick_f rfl hg_217 rfl) ?_
 refine WL.nil ?_
 replace hS := hS.f2.f2
 exact WQ.there fun a ha => ⟨false, hV, hS, ha.of_sub ⟨rfl, rfl, rfl, rfl, rfl, rfl, trivial⟩⟩

theorem S_single {w0 : World} {H : View} {L : Seg} {w : World} {b_2 : Nat} {text_4 : Str} {xat_5 : Int} {deep_7 : Int} {heavy_9 : Bool} {E : Int → Int → Prop} {Q : Val → Int → Prop} (hr_6 : I64 xat_5) (hr_8 : I64 deep_7) (hN : GlobN w0 H) (hS : St w0 H ([(b_2, oc #[sv text_4, i6 xat_5, i6 deep_7, .bool heavy_9] 62)] ++ L) w) (hV : V_single text_4 xat_5 deep_7 heavy_9 E Q) :
 Calls Tryz.prog 66 #[(pq b_2)] w fun e w' => (∃ (r1 : Val) (r2 : Int) (u1 : Value) (H' : View), Q r1 r2 ∧ e = .returned (.agg #[u1]) ∧ View.le H H' ∧ IsW H' u1 r1 ∧ I64 r2 ∧ St w0 H' ([(b_2, oc #[sv text_4, i6 r2, i6 deep_7, .bool heavy_9] 62)] ++ L) w') ∨ (∃ e1 a1, E e1 a1 ∧ e = .panicked (faultC e1 a1) ∧ ∃ H1, View.le H H1 ∧ St w0 H1 L w') := by
 unfold V_single at hV
 refine enter Tryz.func66 rfl Tryz.ntmps66 rfl (lk_args_cons (d := 0) (v := (pq b_2)) rfl (lk_args_nil _)) ?_
 refine WC.sr ?_
 refine WL.alloc (arr := #[.nilIface]) rfl Tryz.zeroValue25 rfl hS ?_
 clear hS
 intro b_10 w hS
 refine WL.nx ?_
 refine WC.seq ?_
 refine WC.quiet (C := St w0 H ([(b_10, oc #[.nilIface] 25)] ++ ([(b_2, oc #[sv text_4, i6 xat_5, i6 deep_7, .bool heavy_9] 62)] ++ L))) Tryz.mixed (by kernel_rfl) (hS.drawn _) ?_
 clear hS w
 refine Wq.run rfl rfl rfl (ex_move rfl) ?_
 refine Wq.run rfl rfl rfl (ex_nilCheck rfl) ?_
 refine Wq.run rfl rfl rfl (ex_fieldAddr (o' := 0) Tryz.underlying62 rfl Tryz.sizeOf9 rfl rfl) ?_
 refine Wq.run rfl rfl rfl ((ex_load_box Tryz.isAgg9 rfl rfl).of (fun _ h => St.f2 h)) ?_
 refine Wq.run rfl rfl rfl (ex_move rfl) ?_
 refine Wq.run rfl rfl rfl (ex_nilCheck rfl) ?_
 refine Wq.run rfl rfl rfl (ex_fieldAddr (o' := 1) Tryz.underlying62 rfl Tryz.sizeOf3 rfl rfl) ?_
 refine Wq.run rfl rfl rfl ((ex_load_box Tryz.isAgg3 rfl rfl).of (fun _ h => St.f2 h)) ?_
 obtain ⟨hb_12, hV⟩ := hV
 refine Wq.run rfl rfl rfl (ex_s_lo Tryz.underlying9 rfl rfl hb_12) ?_
 refine Wq.run rfl rfl rfl (ex_assign rfl) ?_
 refine Wq.nil fun w hS => ?_
 refine WQ.next ?_
 obtain ⟨J_132, hJ_133, hV⟩ := hV
 refine WC.meet (fun a w => J_132 () ∧ St w0 H ([(b_2, oc #[sv text_4, i6 xat_5, i6 deep_7, .bool heavy_9] 62)] ++ ([(b_10, oc #[.nilIface] 25)] ++ L)) w ∧ Fr 185 [(0, (pq b_2)), (2, (pq b_10)), (3, sv (text_4.drop xat_5.toNat))] a) ?_ ?_
 rintro a w ⟨hI, hS, ha⟩
 refine in_frame ha ?_
 clear ha hV
 have hV := hJ_133 _ hI
 clear hI hJ_133
 refine WC.sr ?_
 refine WL.mv rfl rfl ?_
 refine WL.call rfl rfl rfl (enters0 (vs := [sv (text_4.drop xat_5.toNat), sv ([45] : Str)]) Tryz.call57 ⟨rfl, rfl, trivial⟩) (S_hasPre  hS hV) ?_
 clear hV hS
 rintro _ w ⟨r_254, hV, rfl, hS⟩
 refine ⟨_, rfl, ?_⟩
 refine WL.ma rfl rfl ?_
 refine WL.nx ?_
 obtain ⟨J_261, hJ_262, hV⟩ := hV
 refine WC.meet (fun a w => ∃ (c_259 : Int), J_261 c_259 ∧ I64 c_259 ∧ St w0 H ([(b_2, oc #[sv text_4, i6 c_259, i6 deep_7, .bool heavy_9] 62)] ++ ([(b_10, oc #[.nilIface] 25)] ++ L)) w ∧ Fr 185 [(0, (pq b_2)), (2, (pq b_10)), (6, .bool r_254)] a) ?_ ?_
 rintro a w ⟨c_259, hI, hr_260, hS, ha⟩
 refine in_frame ha ?_
 clear ha hV
 have hV := hJ_262 _ hI
 clear hI hJ_262
 refine WC.sr ?_
 refine WL.mv rfl rfl ?_
 refine WL.call rfl rfl rfl (enters0 (vs := [(pq b_2)]) Tryz.call104 ⟨rfl, trivial⟩) (S_word hr_260 hr_8 hS hV) ?_
 clear hV hS
 rintro _ w ⟨r_266, hV, rfl, hS⟩
 refine ⟨_, rfl, ?_⟩
 refine WL.ma rfl rfl ?_
 refine WL.nx ?_
 obtain ⟨J_273, hJ_274, hV⟩ := hV
 refine WC.meet (fun a w => ∃ (c_271 : Int), J_273 c_271 ∧ I64 c_271 ∧ St w0 H ([(b_2, oc #[sv text_4, i6 c_271, i6 deep_7, .bool heavy_9] 62)] ++ ([(b_10, oc #[.nilIface] 25)] ++ L)) w ∧ Fr 185 [(0, (pq b_2)), (2, (pq b_10)), (6, .bool r_254), (7, sv r_266)] a) ?_ ?_
 rintro a w ⟨c_271, hI, hr_272, hS, ha⟩
 refine in_frame ha ?_
 clear ha hV
 have hV := hJ_274 _ hI
 clear hI hJ_274
 refine WC.seq ?_
 obtain ⟨J_283, hJ_284, hV⟩ := hV
 refine WC.meet (fun a w => ∃ (x_282 : Bool), J_283 x_282 ∧ St w0 H ([(b_2, oc #[sv text_4, i6 c_271, i6 deep_7, .bool heavy_9] 62)] ++ ([(b_10, oc #[.nilIface] 25)] ++ L)) w ∧ Fr 185 [(0, (pq b_2)), (2, (pq b_10)), (6, .bool r_254), (7, sv r_266), (118, .bool x_282)] a) ?_ ?_
 rintro a w ⟨x_282, hI, hS, ha⟩
 refine in_frame ha ?_
 clear ha hV
 have hV := hJ_284 _ hI
 clear hI hJ_284
 refine WC.cond rfl ?_ ?_
 intro hc_403
 replace hV := hV.1 hc_403
 refine WC.sr ?_
 refine WL.mv rfl rfl ?_
 refine WL.mv rfl rfl ?_
 refine WL.mv rfl rfl ?_
 refine WL.callP rfl rfl rfl (enters0 (vs := [(pq b_2), sv r_266, .bool r_254]) Tryz.call105 ⟨rfl, rfl, rfl, trivial⟩) (S_number hr_272 hr_8 hN hS hV) (by rintro _ w ⟨e_296, xat_297, hE_298, rfl, H_299, le_300, hS⟩; exact ⟨_, rfl, WQ.of fun a ha => And.intro ha.defers (.inr ⟨e_296, xat_297, hE_298, rfl, _, ((View.le.refl _).trans le_300), hS.drop⟩)⟩) ?_
 clear hV hS
 rintro _ w ⟨r_289, r_292, u_290, H_294, hV, rfl, le_295, h_291, hr_293, hS⟩
 refine ⟨_, rfl, ?_⟩
 replace hS := hS.f2
 refine WL.store_box (pre := []) (old := [.nilIface]) (rst := []) (cs := [u_290]) (arr' := #[u_290]) Tryz.sizeOf25 rfl rfl rfl ⟨(IsW.one h_291), trivial⟩ rfl rfl rfl rfl hS ?_
 clear hS
 intro w hS
 refine WL.nx ?_
 refine WC.ret ?_
 refine WQ.pass nofun ?_
 have hl_301 := load_own_agg (P := Tryz.prog) (cs := [u_290]) Tryz.isAgg25 Tryz.sizeOf25 hS rfl
 replace hS := hS.drop
 exact leavec1 (il) rfl rfl hl_301 (.inl ⟨r_289, r_292, u_290, H_294, hV, rfl, ((View.le.refl _).trans le_295), h_291, hr_293, hS⟩)
 intro hc_403
 replace hV := hV.2 hc_403
 refine WC.skip ?_
 refine WQ.next ?_
 obtain ⟨J_318, hJ_319, hV⟩ := hV
 refine WC.meet (fun a w => J_318 () ∧ St w0 H ([(b_2, oc #[sv text_4, i6 c_271, i6 deep_7, .bool heavy_9] 62)] ++ ([(b_10, oc #[.nilIface] 25)] ++ L)) w ∧ Fr 185 [(0, (pq b_2)), (2, (pq b_10)), (7, sv r_266)] a) ?_ ?_
 rintro a w ⟨hI, hS, ha⟩
 refine in_frame ha ?_
 clear ha hV
 have hV := hJ_319 _ hI
 clear hI hJ_319
 refine WC.seq ?_
 refine WC.sr ?_
 refine WL.mv rfl rfl ?_
 refine WL.nx ?_
 refine WC.block ?_
 refine WC.sr ?_
 refine WL.run hS rfl rfl rfl (ex_s_eql rfl rfl) ?_
 refine WL.ma rfl rfl ?_
 refine WL.nx ?_
 refine WC.cond rfl ?_ ?_
 intro hc_402
 replace hV := hV.1 (of_decide_eq_true hc_402)
 refine WC.sr ?_
 refine WL.mv rfl rfl ?_
 refine WL.run hS rfl rfl rfl (ex_nilCheck rfl) ?_
 refine WL.run hS rfl rfl rfl (ex_fieldAddr (o' := 1) Tryz.underlying62 rfl Tryz.sizeOf3 rfl rfl) ?_
 refine WL.run hS rfl rfl rfl (ex_load_box Tryz.isAgg3 rfl rfl) ?_
 refine WL.mv rfl rfl ?_
 obtain ⟨hl_336, hV⟩ := hV
 refine WL.run hS rfl rfl rfl (ex_s_len Tryz.underlying9 rfl) ?_
 obtain ⟨hi_338, hV⟩ := hV
 refine WL.run hS rfl rfl rfl (ex_add rfl rfl hi_338) ?_
 refine WL.run hS rfl rfl rfl (ex_nilCheck rfl) ?_
 refine WL.run hS rfl rfl rfl (ex_fieldAddr (o' := 1) Tryz.underlying62 rfl Tryz.sizeOf3 rfl rfl) ?_
 refine WL.store_box (pre := [sv text_4]) (old := [i6 c_271]) (rst := [i6 deep_7, .bool heavy_9]) (cs := [i6 (c_271 + (r_266.length : Int))]) (arr' := #[sv text_4, i6 (c_271 + (r_266.length : Int)), i6 deep_7, .bool heavy_9]) Tryz.sizeOf3 rfl rfl rfl ⟨rfl, trivial⟩ rfl rfl rfl rfl hS ?_
 clear hS
 intro w hS
 refine WL.nx ?_
 refine WC.sub (m := [(2, (pq b_10))]) ⟨rfl, trivial⟩ ?_
 refine WC.sr ?_
 refine WL.run hS rfl rfl rfl (ex_build (vs := []) (zc := #[.nilIface]) (cs := #[.nilIface]) (places := #[(0, 1)]) Tryz.underlying25 Tryz.zeroValue25 (fun w => by simp [Tryz.sizeOf23]) rfl trivial rfl (by simp [Instr.fill, cells_int, cells_bool, cells_iface, cells_niliface, cells_slice, str_cells])) ?_
 replace hS := hS.f2
 refine WL.store_box (pre := []) (old := [.nilIface]) (rst := []) (cs := [.nilIface]) (arr' := #[.nilIface]) Tryz.sizeOf25 rfl rfl rfl ⟨rfl, trivial⟩ rfl rfl rfl rfl hS ?_
 clear hS
 intro w hS
 refine WL.nx ?_
 refine WC.ret ?_
 refine WQ.out nofun ?_
 refine WQ.pass nofun ?_
 have hl_339 := load_own_agg (P := Tryz.prog) (cs := [.nilIface]) Tryz.isAgg25 Tryz.sizeOf25 hS rfl
 replace hS := hS.drop
 exact leavec1 (il) rfl rfl hl_339 (.inl ⟨Val.nil, (c_271 + (r_266.length : Int)), .nilIface, H, hV, rfl, (View.le.refl _), IsW.nil, hi_338, hS⟩)
 intro hc_402
 replace hV := hV.2 (of_decide_eq_false hc_402)
 obtain ⟨J_342, hJ_343, hV⟩ := hV
 refine WC.meet (fun a w => ∃ (x_341 : Bool), J_342 x_341 ∧ St w0 H ([(b_2, oc #[sv text_4, i6 c_271, i6 deep_7, .bool heavy_9] 62)] ++ ([(b_10, oc #[.nilIface] 25)] ++ L)) w ∧ Fr 185 [(0, (pq b_2)), (2, (pq b_10)), (7, sv r_266), (148, .bool x_341)] a) ?_ ?_
 rintro a w ⟨x_341, hI, hS, ha⟩
 refine in_frame ha ?_
 clear ha hV
 have hV := hJ_343 _ hI
 clear hI hJ_343
 refine WC.cond rfl ?_ ?_
 intro hc_401
 replace hV := hV.1 hc_401
 refine WC.sr ?_
 refine WL.mv rfl rfl ?_
 refine WL.run hS rfl rfl rfl (ex_nilCheck rfl) ?_
 refine WL.run hS rfl rfl rfl (ex_fieldAddr (o' := 1) Tryz.underlying62 rfl Tryz.sizeOf3 rfl rfl) ?_
 refine WL.run hS rfl rfl rfl (ex_load_box Tryz.isAgg3 rfl rfl) ?_
 refine WL.mv rfl rfl ?_
 obtain ⟨hl_345, hV⟩ := hV
 refine WL.run hS rfl rfl rfl (ex_s_len Tryz.underlying9 rfl) ?_
 obtain ⟨hi_347, hV⟩ := hV
 refine WL.run hS rfl rfl rfl (ex_add rfl rfl hi_347) ?_
 refine WL.run hS rfl rfl rfl (ex_nilCheck rfl) ?_
 refine WL.run hS rfl rfl rfl (ex_fieldAddr (o' := 1) Tryz.underlying62 rfl Tryz.sizeOf3 rfl rfl) ?_
 refine WL.store_box (pre := [sv text_4]) (old := [i6 c_271]) (rst := [i6 deep_7, .bool heavy_9]) (cs := [i6 (c_271 + (r_266.length : Int))]) (arr' := #[sv text_4, i6 (c_271 + (r_266.length : Int)), i6 deep_7, .bool heavy_9]) Tryz.sizeOf3 rfl rfl rfl ⟨rfl, trivial⟩ rfl rfl rfl rfl hS ?_
 clear hS
 intro w hS
 refine WL.nx ?_
 refine WC.sub (m := [(2, (pq b_10)), (7, sv r_266)]) ⟨rfl, rfl, trivial⟩ ?_
 refine WC.sr ?_
 refine WL.mv rfl rfl ?_
 refine WL.run hS rfl rfl rfl (ex_s_eql rfl rfl) ?_
 refine WL.call rfl rfl rfl (enters0 (vs := [.bool (decide (r_266 = ([116, 114, 117, 101] : Str)))]) Tryz.call106 ⟨rfl, trivial⟩) (S_Truth  hS hV) ?_
 clear hV hS
 rintro _ w ⟨r_348, u_349, H_351, hV, rfl, le_352, h_350, hS⟩
 refine ⟨_, rfl, ?_⟩
 replace hS := hS.f2
 refine WL.store_box (pre := []) (old := [.nilIface]) (rst := []) (cs := [u_349]) (arr' := #[u_349]) Tryz.sizeOf25 rfl rfl rfl ⟨(IsW.one h_350), trivial⟩ rfl rfl rfl rfl hS ?_
 clear hS
 intro w hS
 refine WL.nx ?_
 refine WC.ret ?_
 refine WQ.out nofun ?_
 refine WQ.pass nofun ?_
 have hl_353 := load_own_agg (P := Tryz.prog) (cs := [u_349]) Tryz.isAgg25 Tryz.sizeOf25 hS rfl
 replace hS := hS.drop
 exact leavec1 (il) rfl rfl hl_353 (.inl ⟨r_348, (c_271 + (r_266.length : Int)), u_349, H_351, hV, rfl, ((View.le.refl _).trans le_352), h_350, hi_347, hS⟩)
 intro hc_401
 replace hV := hV.2 hc_401
 refine WC.skip ?_
 refine WQ.out nofun ?_
 refine WQ.next ?_
 obtain ⟨J_372, hJ_373, hV⟩ := hV
 refine WC.meet (fun a w => J_372 () ∧ St w0 H ([(b_2, oc #[sv text_4, i6 c_271, i6 deep_7, .bool heavy_9] 62)] ++ ([(b_10, oc #[.nilIface] 25)] ++ L)) w ∧ Fr 185 [(0, (pq b_2)), (2, (pq b_10)), (7, sv r_266)] a) ?_ ?_
 rintro a w ⟨hI, hS, ha⟩
 refine in_frame ha ?_
 clear ha hV
 have hV := hJ_373 _ hI
 clear hI hJ_373
 refine WC.sr ?_
 refine WL.mv rfl rfl ?_
 refine WL.run hS rfl rfl rfl (ex_nilCheck rfl) ?_
 refine WL.run hS rfl rfl rfl (ex_fieldAddr (o' := 1) Tryz.underlying62 rfl Tryz.sizeOf3 rfl rfl) ?_
 refine WL.run hS rfl rfl rfl (ex_load_box Tryz.isAgg3 rfl rfl) ?_
 refine WL.mv rfl rfl ?_
 obtain ⟨hl_392, hV⟩ := hV
 refine WL.run hS rfl rfl rfl (ex_s_len Tryz.underlying9 rfl) ?_
 obtain ⟨hi_394, hV⟩ := hV
 refine WL.run hS rfl rfl rfl (ex_add rfl rfl hi_394) ?_
 refine WL.run hS rfl rfl rfl (ex_nilCheck rfl) ?_
 refine WL.run hS rfl rfl rfl (ex_fieldAddr (o' := 1) Tryz.underlying62 rfl Tryz.sizeOf3 rfl rfl) ?_
 refine WL.store_box (pre := [sv text_4]) (old := [i6 c_271]) (rst := [i6 deep_7, .bool heavy_9]) (cs := [i6 (c_271 + (r_266.length : Int))]) (arr' := #[sv text_4, i6 (c_271 + (r_266.length : Int)), i6 deep_7, .bool heavy_9]) Tryz.sizeOf3 rfl rfl rfl ⟨rfl, trivial⟩ rfl rfl rfl rfl hS ?_
 clear hS
 intro w hS
 refine WL.nx ?_
 refine WC.sub (m := [(2, (pq b_10)), (7, sv r_266)]) ⟨rfl, rfl, trivial⟩ ?_
 refine WC.sr ?_
 refine WL.mv rfl rfl ?_
 refine WL.call rfl rfl rfl (enters0 (vs := [sv r_266]) Tryz.call108 ⟨rfl, trivial⟩) (S_Atom  hS hV) ?_
 clear hV hS
 rintro _ w ⟨r_395, u_396, H_398, hV, rfl, le_399, h_397, hS⟩
 refine ⟨_, rfl, ?_⟩
 replace hS := hS.f2
 refine WL.store_box (pre := []) (old := [.nilIface]) (rst := []) (cs := [u_396]) (arr' := #[u_396]) Tryz.sizeOf25 rfl rfl rfl ⟨(IsW.one h_397), trivial⟩ rfl rfl rfl rfl hS ?_
 clear hS
 intro w hS
 refine WL.nx ?_
 refine WC.ret ?_
 have hl_400 := load_own_agg (P := Tryz.prog) (cs := [u_396]) Tryz.isAgg25 Tryz.sizeOf25 hS rfl
 replace hS := hS.drop
 exact leavec1 (il) rfl rfl hl_400 (.inl ⟨r_395, (c_271 + (r_266.length : Int)), u_396, H_398, hV, rfl, ((View.le.refl _).trans le_399), h_397, hi_394, hS⟩)
 clear hJ_373
 refine WC.block ?_
 refine WC.sr ?_
 refine WL.mv rfl rfl ?_
 refine WL.call rfl rfl rfl (enters0 (vs := [sv r_266]) Tryz.call107 ⟨rfl, trivial⟩) (S_Reserved  hS hV) ?_
 clear hV hS
 rintro _ w ⟨r_374, hV, rfl, hS⟩
 refine ⟨_, rfl, ?_⟩
 refine WL.ma rfl rfl ?_
 refine WL.nx ?_
 refine WC.cond rfl ?_ ?_
 intro hc_391
 replace hV := hV.1 hc_391
 refine WC.region ?_
 refine WL.mv rfl rfl ?_
 refine WL.callP rfl rfl rfl (enters0 (vs := [(pq b_2), i6 (1 : Int)]) Tryz.call25 ⟨rfl, rfl, trivial⟩) (S_fail hr_272 hr_8 (show I64 (1 : Int) by unfold I64; omega) hS hV) (by rintro _ w ⟨e_377, xat_378, hE_379, rfl, H_380, le_381, hS⟩; exact ⟨_, rfl, WQ.of fun a ha => And.intro ha.defers (.inr ⟨e_377, xat_378, hE_379, rfl, _, ((View.le.refl _).trans le_381), hS.drop⟩)⟩) ?_
 clear hV hS
 rintro _ w ⟨hV, rfl, hS⟩
 refine ⟨_, rfl, ?_⟩
 refine WL.nil ?_
 refine WQ.out nofun ?_
 replace hS := hS.f2.f2
 exact WQ.there fun a ha => ⟨hV, hS, ha.of_sub ⟨rfl, rfl, rfl, trivial⟩⟩
 intro hc_391
 replace hV := hV.2 hc_391
 refine WC.sr ?_
 refine WL.mv rfl rfl ?_
 obtain ⟨hl_382, hV⟩ := hV
 refine WL.run hS rfl rfl rfl (ex_s_len Tryz.underlying9 rfl) ?_
 refine WL.run hS rfl rfl rfl (ex_gtr rfl rfl) ?_
 refine WL.ma rfl rfl ?_
 refine WL.nx ?_
 refine WC.cond rfl ?_ ?_
 intro hc_390
 replace hV := hV.1 (of_decide_eq_true hc_390)
 refine WC.region ?_
 refine WL.mv rfl rfl ?_
 refine WL.callP rfl rfl rfl (enters0 (vs := [(pq b_2), i6 (5 : Int)]) Tryz.call25 ⟨rfl, rfl, trivial⟩) (S_fail hr_272 hr_8 (show I64 (5 : Int) by unfold I64; omega) hS hV) (by rintro _ w ⟨e_385, xat_386, hE_387, rfl, H_388, le_389, hS⟩; exact ⟨_, rfl, WQ.of fun a ha => And.intro ha.defers (.inr ⟨e_385, xat_386, hE_387, rfl, _, ((View.le.refl _).trans le_389), hS.drop⟩)⟩) ?_
 clear hV hS
 rintro _ w ⟨hV, rfl, hS⟩
 refine ⟨_, rfl, ?_⟩
 refine WL.nil ?_
 refine WQ.out nofun ?_
 replace hS := hS.f2.f2
 exact WQ.there fun a ha => ⟨hV, hS, ha.of_sub ⟨rfl, rfl, rfl, trivial⟩⟩
 intro hc_390
 replace hV := hV.2 (of_decide_eq_false hc_390)
 refine WC.skip ?_
 refine WQ.out nofun ?_
 replace hS := hS.f2.f2
 exact WQ.there fun a ha => ⟨hV, hS, ha.of_sub ⟨rfl, rfl, rfl, trivial⟩⟩
 clear hJ_343
 refine WC.sr ?_
 refine WL.run hS rfl rfl rfl (ex_s_eql rfl rfl) ?_
 refine WL.ma rfl rfl ?_
 refine WL.nx ?_
 refine WC.cond rfl ?_ ?_
 intro hc_344
 replace hV := hV.1 (of_decide_eq_true hc_344)
 refine WC.skip ?_
 replace hS := hS.f2.f2
 exact WQ.there fun a ha => ⟨decide (r_266 = ([116, 114, 117, 101] : Str)), hV, hS, ha.of_sub ⟨rfl, rfl, rfl, rfl, trivial⟩⟩
 intro hc_344
 replace hV := hV.2 (of_decide_eq_false hc_344)
 refine WC.region ?_
 refine WL.run hS rfl rfl rfl (ex_s_eql rfl rfl) ?_
 refine WL.ma rfl rfl ?_
 refine WL.nil ?_
 replace hS := hS.f2.f2
 exact WQ.there fun a ha => ⟨decide (r_266 = ([102, 97, 108, 115, 101] : Str)), hV, hS, ha.of_sub ⟨rfl, rfl, rfl, rfl, trivial⟩⟩
 clear hJ_319
 obtain ⟨J_324, hJ_325, hV⟩ := hV
 refine WC.meet (fun a w => ∃ (x_323 : Bool), J_324 x_323 ∧ St w0 H ([(b_2, oc #[sv text_4, i6 c_271, i6 deep_7, .bool heavy_9] 62)] ++ ([(b_10, oc #[.nilIface] 25)] ++ L)) w ∧ Fr 185 [(0, (pq b_2)), (2, (pq b_10)), (7, sv r_266), (132, .bool x_323)] a) ?_ ?_
 rintro a w ⟨x_323, hI, hS, ha⟩
 refine in_frame ha ?_
 clear ha hV
 have hV := hJ_325 _ hI
 clear hI hJ_325
 refine WC.cond rfl ?_ ?_
 intro hc_335
 replace hV := hV.1 hc_335
 refine WC.region ?_
 refine WL.mv rfl rfl ?_
 refine WL.callP rfl rfl rfl (enters0 (vs := [(pq b_2), i6 (1 : Int)]) Tryz.call25 ⟨rfl, rfl, trivial⟩) (S_fail hr_272 hr_8 (show I64 (1 : Int) by unfold I64; omega) hS hV) (by rintro _ w ⟨e_330, xat_331, hE_332, rfl, H_333, le_334, hS⟩; exact ⟨_, rfl, WQ.of fun a ha => And.intro ha.defers (.inr ⟨e_330, xat_331, hE_332, rfl, _, ((View.le.refl _).trans le_334), hS.drop⟩)⟩) ?_
 clear hV hS
 rintro _ w ⟨hV, rfl, hS⟩
 refine ⟨_, rfl, ?_⟩
 refine WL.nil ?_
 replace hS := hS.f2.f2
 exact WQ.there fun a ha => ⟨hV, hS, ha.of_sub ⟨rfl, rfl, rfl, trivial⟩⟩
 intro hc_335
 replace hV := hV.2 hc_335
 refine WC.skip ?_
 replace hS := hS.f2.f2
 exact WQ.there fun a ha => ⟨hV, hS, ha.of_sub ⟨rfl, rfl, rfl, trivial⟩⟩
 clear hJ_325
 refine WC.region ?_
 refine WL.mv rfl rfl ?_
 refine WL.run hS rfl rfl rfl (ex_s_eql rfl rfl) ?_
 refine WL.mv rfl rfl ?_
 rcases Bool.eq_false_or_eq_true (decide (r_266 = ([] : Str))) with hg_326 | hg_326
 replace hV := hV.1 (of_decide_eq_true hg_326)
 refine WL.skip_g rfl rfl rfl hg_326 rfl rfl ?_
 refine WL.run hS rfl rfl rfl (ex_pick_t rfl hg_326 rfl) ?_
 refine WL.mv rfl rfl ?_
 refine WL.skip_g rfl rfl rfl rfl rfl rfl ?_
 refine WL.skip_g rfl rfl rfl rfl rfl rfl ?_
 refine WL.skip_g rfl rfl rfl rfl rfl rfl ?_
 refine WL.run hS rfl rfl rfl (ex_pick_t rfl rfl rfl) ?_
 refine WL.nil ?_
 replace hS := hS.f2.f2
 exact WQ.there fun a ha => ⟨true, hV, hS, ha.of_sub ⟨rfl, rfl, rfl, rfl, trivial⟩⟩
 replace hV := hV.2 (of_decide_eq_false hg_326)
 refine WL.unguard rfl rfl hg_326 ?_
 refine WL.mv rfl rfl ?_
 refine WL.run hS rfl rfl rfl (ex_pick_f rfl hg_326 rfl) ?_
 refine WL.mv rfl rfl ?_
 rcases Bool.eq_false_or_eq_true r_254 with hg_327 | hg_327
 replace hV := hV.1 hg_327
 refine WL.skip_g rfl rfl rfl hg_327 rfl rfl ?_
 refine WL.skip_g rfl rfl rfl hg_327 rfl rfl ?_
 refine WL.skip_g rfl rfl rfl hg_327 rfl rfl ?_
 refine WL.run hS rfl rfl rfl (ex_pick_t rfl hg_327 rfl) ?_
 refine WL.nil ?_
 replace hS := hS.f2.f2
 exact WQ.there fun a ha => ⟨true, hV, hS, ha.of_sub ⟨rfl, rfl, rfl, rfl, trivial⟩⟩
 replace hV := hV.2 hg_327
 refine WL.unguard rfl rfl hg_327 ?_
 refine WL.mv rfl rfl ?_
 refine WL.unguard rfl rfl hg_327 ?_
 obtain ⟨hin_328, hV⟩ := hV
 refine WL.run hS rfl rfl rfl (ex_s_index Tryz.underlying9 rfl rfl hin_328) ?_
 refine WL.unguard rfl rfl hg_327 ?_
 refine WL.run hS rfl rfl rfl (ex_eql rfl rfl) ?_
 refine WL.run hS rfl rfl rfl (ex_pick_f rfl hg_327 rfl) ?_
 refine WL.nil ?_
 replace hS := hS.f2.f2
 exact WQ.there fun a ha => ⟨decide ((byte r_266 (0 : Int)) = (95 : Int)), hV, hS, ha.of_sub ⟨rfl, rfl, rfl, rfl, trivial⟩⟩
 clear hJ_284
 refine WC.region ?_
 refine WL.mv rfl rfl ?_
 refine WL.run hS rfl rfl rfl (ex_s_neq rfl rfl) ?_
 refine WL.mv rfl rfl ?_
 rcases Bool.eq_false_or_eq_true (decide (r_266 ≠ ([] : Str))) with hg_285 | hg_285
 replace hV := hV.1 (of_decide_eq_true hg_285)
 refine WL.unguard rfl rfl hg_285 ?_
 refine WL.mv rfl rfl ?_
 refine WL.unguard rfl rfl hg_285 ?_
 obtain ⟨hin_286, hV⟩ := hV
 refine WL.run hS rfl rfl rfl (ex_s_index Tryz.underlying9 rfl rfl hin_286) ?_
 refine WL.unguard rfl rfl hg_285 ?_
 refine WL.run hS rfl rfl rfl (ex_geq rfl rfl) ?_
 refine WL.run hS rfl rfl rfl (ex_pick_t rfl hg_285 rfl) ?_
 refine WL.mv rfl rfl ?_
 rcases Bool.eq_false_or_eq_true (decide ((48 : Int) ≤ (byte r_266 (0 : Int)))) with hg_287 | hg_287
 replace hV := hV.1 (of_decide_eq_true hg_287)
 refine WL.unguard rfl rfl hg_287 ?_
 refine WL.mv rfl rfl ?_
 refine WL.unguard rfl rfl hg_287 ?_
 obtain ⟨hin_288, hV⟩ := hV
 refine WL.run hS rfl rfl rfl (ex_s_index Tryz.underlying9 rfl rfl hin_288) ?_
 refine WL.unguard rfl rfl hg_287 ?_
 refine WL.run hS rfl rfl rfl (ex_leq rfl rfl) ?_
 refine WL.run hS rfl rfl rfl (ex_pick_t rfl hg_287 rfl) ?_
 refine WL.nil ?_
 replace hS := hS.f2.f2
 exact WQ.there fun a ha => ⟨decide ((byte r_266 (0 : Int)) ≤ (57 : Int)), hV, hS, ha.of_sub ⟨rfl, rfl, rfl, rfl, rfl, trivial⟩⟩
 replace hV := hV.2 (of_decide_eq_false hg_287)
 refine WL.skip_g rfl rfl rfl hg_287 rfl rfl ?_
 refine WL.skip_g rfl rfl rfl hg_287 rfl rfl ?_
 refine WL.skip_g rfl rfl rfl hg_287 rfl rfl ?_
 refine WL.run hS rfl rfl rfl (ex_pick_f rfl hg_287 rfl) ?_
 refine WL.nil ?_
 replace hS := hS.f2.f2
 exact WQ.there fun a ha => ⟨false, hV, hS, ha.of_sub ⟨rfl, rfl, rfl, rfl, rfl, trivial⟩⟩
 replace hV := hV.2 (of_decide_eq_false hg_285)
 refine WL.skip_g rfl rfl rfl hg_285 rfl rfl ?_
 refine WL.skip_g rfl rfl rfl hg_285 rfl rfl ?_
 refine WL.skip_g rfl rfl rfl hg_285 rfl rfl ?_
 refine WL.run hS rfl rfl rfl (ex_pick_f rfl hg_285 rfl) ?_
 refine WL.mv rfl rfl ?_
 refine WL.skip_g rfl rfl rfl rfl rfl rfl ?_
 refine WL.skip_g rfl rfl rfl rfl rfl rfl ?_
 refine WL.skip_g rfl rfl rfl rfl rfl rfl ?_
 refine WL.run hS rfl rfl rfl (ex_pick_f rfl rfl rfl) ?_
 refine WL.nil ?_
 replace hS := hS.f2.f2
 exact WQ.there fun a ha => ⟨false, hV, hS, ha.of_sub ⟨rfl, rfl, rfl, rfl, rfl, trivial⟩⟩
 clear hJ_274
 refine WC.sr ?_
 refine WL.mv rfl rfl ?_
 refine WL.nx ?_
 refine WC.cond rfl ?_ ?_
 intro hc_277
 replace hV := hV.1 hc_277
 refine WC.region ?_
 refine WL.mv rfl rfl ?_
 refine WL.run hS rfl rfl rfl (ex_nilCheck rfl) ?_
 refine WL.run hS rfl rfl rfl (ex_fieldAddr (o' := 1) Tryz.underlying62 rfl Tryz.sizeOf3 rfl rfl) ?_
 refine WL.run hS rfl rfl rfl (ex_load_box Tryz.isAgg3 rfl rfl) ?_
 obtain ⟨hi_276, hV⟩ := hV
 refine WL.run hS rfl rfl rfl (ex_sub rfl rfl hi_276) ?_
 refine WL.run hS rfl rfl rfl (ex_nilCheck rfl) ?_
 refine WL.run hS rfl rfl rfl (ex_fieldAddr (o' := 1) Tryz.underlying62 rfl Tryz.sizeOf3 rfl rfl) ?_
 refine WL.store_box (pre := [sv text_4]) (old := [i6 c_259]) (rst := [i6 deep_7, .bool heavy_9]) (cs := [i6 (c_259 - (1 : Int))]) (arr' := #[sv text_4, i6 (c_259 - (1 : Int)), i6 deep_7, .bool heavy_9]) Tryz.sizeOf3 rfl rfl rfl ⟨rfl, trivial⟩ rfl rfl rfl rfl hS ?_
 clear hS
 intro w hS
 refine WL.nil ?_
 replace hS := hS.f2.f2
 exact WQ.there fun a ha => ⟨(c_259 - (1 : Int)), hV, hi_276, hS, ha.of_sub ⟨rfl, rfl, rfl, rfl, trivial⟩⟩
 intro hc_277
 replace hV := hV.2 hc_277
 refine WC.skip ?_
 replace hS := hS.f2.f2
 exact WQ.there fun a ha => ⟨c_259, hV, hr_260, hS, ha.of_sub ⟨rfl, rfl, rfl, rfl, trivial⟩⟩
 clear hJ_262
 refine WC.sr ?_
 refine WL.mv rfl rfl ?_
 refine WL.nx ?_
 refine WC.cond rfl ?_ ?_
 intro hc_265
 replace hV := hV.1 hc_265
 refine WC.region ?_
 refine WL.mv rfl rfl ?_
 refine WL.run hS rfl rfl rfl (ex_nilCheck rfl) ?_
 refine WL.run hS rfl rfl rfl (ex_fieldAddr (o' := 1) Tryz.underlying62 rfl Tryz.sizeOf3 rfl rfl) ?_
 refine WL.run hS rfl rfl rfl (ex_load_box Tryz.isAgg3 rfl rfl) ?_
 obtain ⟨hi_264, hV⟩ := hV
 refine WL.run hS rfl rfl rfl (ex_add rfl rfl hi_264) ?_
 refine WL.run hS rfl rfl rfl (ex_nilCheck rfl) ?_
 refine WL.run hS rfl rfl rfl (ex_fieldAddr (o' := 1) Tryz.underlying62 rfl Tryz.sizeOf3 rfl rfl) ?_
 refine WL.store_box (pre := [sv text_4]) (old := [i6 xat_5]) (rst := [i6 deep_7, .bool heavy_9]) (cs := [i6 (xat_5 + (1 : Int))]) (arr' := #[sv text_4, i6 (xat_5 + (1 : Int)), i6 deep_7, .bool heavy_9]) Tryz.sizeOf3 rfl rfl rfl ⟨rfl, trivial⟩ rfl rfl rfl rfl hS ?_
 clear hS
 intro w hS
 refine WL.nil ?_
 replace hS := hS.f2.f2
 exact WQ.there fun a ha => ⟨(xat_5 + (1 : Int)), hV, hi_264, hS, ha.of_sub ⟨rfl, rfl, rfl, trivial⟩⟩
 intro hc_265
 replace hV := hV.2 hc_265
 refine WC.skip ?_
 replace hS := hS.f2.f2
 exact WQ.there fun a ha => ⟨xat_5, hV, hr_6, hS, ha.of_sub ⟨rfl, rfl, rfl, trivial⟩⟩
 clear hJ_133
 refine WC.sr ?_
 refine WL.mv rfl rfl ?_
 refine WL.call rfl rfl rfl (enters0 (vs := [sv (text_4.drop xat_5.toNat), sv ([34] : Str)]) Tryz.call57 ⟨rfl, rfl, trivial⟩) (S_hasPre  hS hV) ?_
 clear hV hS
 rintro _ w ⟨r_134, hV, rfl, hS⟩
 refine ⟨_, rfl, ?_⟩
 refine WL.nx ?_
 refine WC.sub (m := [(0, (pq b_2)), (2, (pq b_10)), (3, sv (text_4.drop xat_5.toNat)), (18, .bool r_134)]) ⟨rfl, rfl, rfl, rfl, trivial⟩ ?_
 refine WC.cond rfl ?_ ?_
 intro hc_253
 replace hV := hV.1 hc_253
 refine WC.seq ?_
 refine WC.sr ?_
 refine WL.mv rfl rfl ?_
 refine WL.run hS rfl rfl rfl (ex_nilCheck rfl) ?_
 refine WL.run hS rfl rfl rfl (ex_fieldAddr (o' := 1) Tryz.underlying62 rfl Tryz.sizeOf3 rfl rfl) ?_
 replace hS := hS.f2
 refine WL.run hS rfl rfl rfl (ex_load_box Tryz.isAgg3 rfl rfl) ?_
 obtain ⟨hi_137, hV⟩ := hV
 refine WL.run hS rfl rfl rfl (ex_add rfl rfl hi_137) ?_
 refine WL.ma rfl rfl ?_
 refine WL.nx ?_
 refine WC.block ?_
 replace hS := hS.f2.f2
 obtain ⟨I_208, mu_209, hI_252, hV⟩ := hV
 refine WC.loop (σ := Int) (fun s a w => ∃ (k_172 : Int), s = k_172 ∧ I_208 k_172 ∧ I64 k_172 ∧ St w0 H ([(b_2, oc #[sv text_4, i6 xat_5, i6 deep_7, .bool heavy_9] 62)] ++ ([(b_10, oc #[.nilIface] 25)] ++ L)) w ∧ Fr 185 [(0, (pq b_2)), (2, (pq b_10)), (3, sv (text_4.drop xat_5.toNat)), (4, i6 k_172)] a) mu_209 (xat_5 + (1 : Int)) ?_ ?_
 exact fun a ha => ⟨(xat_5 + (1 : Int)), rfl, hI_252, hi_137, hS, ha.of_sub ⟨rfl, rfl, rfl, rfl, trivial⟩⟩
 clear hS hI_252
 rintro k_172 a w ⟨_, rfl, hI, hr_173, hS, ha⟩
 refine in_frame ha ?_
 clear ha
 replace hV := hV _ hI
 clear hI
 refine WC.seq ?_
 obtain ⟨J_220, hJ_221, hV⟩ := hV
 refine WC.meet (fun a w => ∃ (x_219 : Bool), J_220 x_219 ∧ St w0 H ([(b_2, oc #[sv text_4, i6 xat_5, i6 deep_7, .bool heavy_9] 62)] ++ ([(b_10, oc #[.nilIface] 25)] ++ L)) w ∧ Fr 185 [(0, (pq b_2)), (2, (pq b_10)), (3, sv (text_4.drop xat_5.toNat)), (4, i6 k_172), (57, .bool x_219)] a) ?_ ?_
 rintro a w ⟨x_219, hI, hS, ha⟩
 refine in_frame ha ?_
 clear ha hV
 have hV := hJ_221 _ hI
 clear hI hJ_221
 refine WC.cond rfl ?_ ?_
 intro hc_251
 replace hV := hV.1 hc_251
 refine WC.skip ?_
 refine WQ.next ?_
 refine WC.seq ?_
 refine WC.block ?_
 refine WC.sr ?_
 refine WL.mv rfl rfl ?_
 refine WL.run hS rfl rfl rfl (ex_nilCheck rfl) ?_
 refine WL.run hS rfl rfl rfl (ex_fieldAddr (o' := 0) Tryz.underlying62 rfl Tryz.sizeOf9 rfl rfl) ?_
 refine WL.run hS rfl rfl rfl (ex_load_box Tryz.isAgg9 rfl rfl) ?_
 refine WL.mv rfl rfl ?_
 obtain ⟨hin_230, hV⟩ := hV
 refine WL.run hS rfl rfl rfl (ex_s_index Tryz.underlying9 rfl rfl hin_230) ?_
 refine WL.run hS rfl rfl rfl (ex_eql rfl rfl) ?_
 refine WL.nx ?_
 refine WC.cond rfl ?_ ?_
 intro hc_244
 replace hV := hV.1 (of_decide_eq_true hc_244)
 refine WC.seq ?_
 refine WC.quiet (C := St w0 H ([(b_2, oc #[sv text_4, i6 xat_5, i6 deep_7, .bool heavy_9] 62)] ++ ([(b_10, oc #[.nilIface] 25)] ++ L))) Tryz.mixed (by kernel_rfl) (hS.drawn _) ?_
 clear hS w
 refine Wq.run rfl rfl rfl (ex_move rfl) ?_
 refine Wq.run rfl rfl rfl (ex_nilCheck rfl) ?_
 refine Wq.run rfl rfl rfl (ex_fieldAddr (o' := 0) Tryz.underlying62 rfl Tryz.sizeOf9 rfl rfl) ?_
 refine Wq.run rfl rfl rfl (ex_load_box Tryz.isAgg9 rfl rfl) ?_
 refine Wq.run rfl rfl rfl (ex_move rfl) ?_
 refine Wq.run rfl rfl rfl (ex_nilCheck rfl) ?_
 refine Wq.run rfl rfl rfl (ex_fieldAddr (o' := 1) Tryz.underlying62 rfl Tryz.sizeOf3 rfl rfl) ?_
 refine Wq.run rfl rfl rfl (ex_load_box Tryz.isAgg3 rfl rfl) ?_
 obtain ⟨hi_232, hV⟩ := hV
 refine Wq.run rfl rfl rfl (ex_add rfl rfl hi_232) ?_
 refine Wq.run rfl rfl rfl (ex_move rfl) ?_
 obtain ⟨hb_233, hV⟩ := hV
 refine Wq.run rfl rfl rfl (ex_s_lohi Tryz.underlying9 rfl rfl rfl hb_233) ?_
 refine Wq.run rfl rfl rfl (ex_assign rfl) ?_
 refine Wq.nil fun w hS => ?_
 refine WQ.next ?_
 refine WC.sub (m := [(0, (pq b_2)), (2, (pq b_10)), (4, i6 k_172), (5, sv ((text_4.take k_172.toNat).drop (xat_5 + (1 : Int)).toNat))]) ⟨rfl, rfl, rfl, rfl, trivial⟩ ?_
 refine WC.sr ?_
 refine WL.mv rfl rfl ?_
 refine WL.mv rfl rfl ?_
 obtain ⟨hi_235, hV⟩ := hV
 refine WL.run hS rfl rfl rfl (ex_add rfl rfl hi_235) ?_
 refine WL.run hS rfl rfl rfl (ex_nilCheck rfl) ?_
 refine WL.run hS rfl rfl rfl (ex_fieldAddr (o' := 1) Tryz.underlying62 rfl Tryz.sizeOf3 rfl rfl) ?_
 refine WL.store_box (pre := [sv text_4]) (old := [i6 xat_5]) (rst := [i6 deep_7, .bool heavy_9]) (cs := [i6 (k_172 + (1 : Int))]) (arr' := #[sv text_4, i6 (k_172 + (1 : Int)), i6 deep_7, .bool heavy_9]) Tryz.sizeOf3 rfl rfl rfl ⟨rfl, trivial⟩ rfl rfl rfl rfl hS ?_
 clear hS
 intro w hS
 refine WL.nx ?_
 refine WC.sr ?_
 refine WL.mv rfl rfl ?_
 refine WL.call rfl rfl rfl (enters0 (vs := [sv ((text_4.take k_172.toNat).drop (xat_5 + (1 : Int)).toNat)]) Tryz.call103 ⟨rfl, trivial⟩) (S_Text  hS hV) ?_
 clear hV hS
 rintro _ w ⟨r_236, u_237, H_239, hV, rfl, le_240, h_238, hS⟩
 refine ⟨_, rfl, ?_⟩
 replace hS := hS.f2
 refine WL.store_box (pre := []) (old := [.nilIface]) (rst := []) (cs := [u_237]) (arr' := #[u_237]) Tryz.sizeOf25 rfl rfl rfl ⟨(IsW.one h_238), trivial⟩ rfl rfl rfl rfl hS ?_
 clear hS
 intro w hS
 refine WL.nx ?_
 refine WC.sub (m := [(2, (pq b_10))]) ⟨rfl, trivial⟩ ?_
 refine WC.ret ?_
 refine WQ.out nofun ?_
 refine WQ.pass nofun ?_
 refine WQ.pass nofun ?_
 refine WQ.out nofun ?_
 refine WQ.pass nofun ?_
 refine WQ.pass nofun ?_
 have hl_241 := load_own_agg (P := Tryz.prog) (cs := [u_237]) Tryz.isAgg25 Tryz.sizeOf25 hS rfl
 replace hS := hS.drop
 exact leavec1 (il) rfl rfl hl_241 (.inl ⟨r_236, (k_172 + (1 : Int)), u_237, H_239, hV, rfl, ((View.le.refl _).trans le_240), h_238, hi_235, hS⟩)
 intro hc_244
 replace hV := hV.2 (of_decide_eq_false hc_244)
 refine WC.skip ?_
 refine WQ.out nofun ?_
 refine WQ.next ?_
 refine WC.region ?_
 refine WL.mv rfl rfl ?_
 obtain ⟨hi_243, hV⟩ := hV
 refine WL.run hS rfl rfl rfl (ex_add rfl rfl hi_243) ?_
 refine WL.ma rfl rfl ?_
 refine WL.nil ?_
 replace hS := hS.f2.f2
 exact WQ.there fun a ha => ⟨(k_172 + (1 : Int)), ⟨(k_172 + (1 : Int)), rfl, hV.1, hi_243, hS, ha.of_sub ⟨rfl, rfl, rfl, rfl, trivial⟩⟩, hV.2⟩
 intro hc_251
 replace hV := hV.2 hc_251
 refine WC.exit ?_
 refine WQ.pass nofun ?_
 refine WQ.pass nofun ?_
 refine WQ.hit ?_
 refine WQ.next ?_
 refine WC.region ?_
 refine WL.mv rfl rfl ?_
 refine WL.callP rfl rfl rfl (enters0 (vs := [(pq b_2), i6 (1 : Int)]) Tryz.call25 ⟨rfl, rfl, trivial⟩) (S_fail hr_6 hr_8 (show I64 (1 : Int) by unfold I64; omega) hS hV) (by rintro _ w ⟨e_246, xat_247, hE_248, rfl, H_249, le_250, hS⟩; exact ⟨_, rfl, WQ.of fun a ha => And.intro ha.defers (.inr ⟨e_246, xat_247, hE_248, rfl, _, ((View.le.refl _).trans le_250), hS.drop⟩)⟩) ?_
 clear hV hS
 rintro _ w ⟨hV, rfl, hS⟩
 refine ⟨_, rfl, ?_⟩
 refine WL.nil ?_
 replace hS := hS.f2.f2
 exact WQ.there fun a ha => ⟨hV, hS, ha.of_sub ⟨rfl, rfl, rfl, trivial⟩⟩
 clear hJ_221
 refine WC.region ?_
 refine WL.mv rfl rfl ?_
 refine WL.mv rfl rfl ?_
 refine WL.run hS rfl rfl rfl (ex_nilCheck rfl) ?_
 refine WL.run hS rfl rfl rfl (ex_fieldAddr (o' := 0) Tryz.underlying62 rfl Tryz.sizeOf9 rfl rfl) ?_
 refine WL.run hS rfl rfl rfl (ex_load_box Tryz.isAgg9 rfl rfl) ?_
 obtain ⟨hl_222, hV⟩ := hV
 refine WL.run hS rfl rfl rfl (ex_s_len Tryz.underlying9 rfl) ?_
 refine WL.run hS rfl rfl rfl (ex_lss rfl rfl) ?_
 refine WL.mv rfl rfl ?_
 rcases Bool.eq_false_or_eq_true (decide (k_172 < (text_4.length : Int))) with hg_224 | hg_224
 replace hV := hV.1 (of_decide_eq_true hg_224)
 refine WL.unguard rfl rfl hg_224 ?_
 refine WL.mv rfl rfl ?_
 refine WL.unguard rfl rfl hg_224 ?_
 refine WL.run hS rfl rfl rfl (ex_nilCheck rfl) ?_
 refine WL.unguard rfl rfl hg_224 ?_
 refine WL.run hS rfl rfl rfl (ex_fieldAddr (o' := 0) Tryz.underlying62 rfl Tryz.sizeOf9 rfl rfl) ?_
 refine WL.unguard rfl rfl hg_224 ?_
 refine WL.run hS rfl rfl rfl (ex_load_box Tryz.isAgg9 rfl rfl) ?_
 refine WL.unguard rfl rfl hg_224 ?_
 refine WL.mv rfl rfl ?_
 refine WL.unguard rfl rfl hg_224 ?_
 obtain ⟨hin_225, hV⟩ := hV
 refine WL.run hS rfl rfl rfl (ex_s_index Tryz.underlying9 rfl rfl hin_225) ?_
 refine WL.unguard rfl rfl hg_224 ?_
 refine WL.run hS rfl rfl rfl (ex_geq rfl rfl) ?_
 refine WL.run hS rfl rfl rfl (ex_pick_t rfl hg_224 rfl) ?_
 refine WL.mv rfl rfl ?_
 rcases Bool.eq_false_or_eq_true (decide ((32 : Int) ≤ (byte text_4 k_172))) with hg_226 | hg_226
 replace hV := hV.1 (of_decide_eq_true hg_226)
 refine WL.unguard rfl rfl hg_226 ?_
 refine WL.mv rfl rfl ?_
 refine WL.unguard rfl rfl hg_226 ?_
 refine WL.run hS rfl rfl rfl (ex_nilCheck rfl) ?_
 refine WL.unguard rfl rfl hg_226 ?_
 refine WL.run hS rfl rfl rfl (ex_fieldAddr (o' := 0) Tryz.underlying62 rfl Tryz.sizeOf9 rfl rfl) ?_
 refine WL.unguard rfl rfl hg_226 ?_
 refine WL.run hS rfl rfl rfl (ex_load_box Tryz.isAgg9 rfl rfl) ?_
 refine WL.unguard rfl rfl hg_226 ?_
 refine WL.mv rfl rfl ?_
 refine WL.unguard rfl rfl hg_226 ?_
 obtain ⟨hin_227, hV⟩ := hV
 refine WL.run hS rfl rfl rfl (ex_s_index Tryz.underlying9 rfl rfl hin_227) ?_
 refine WL.unguard rfl rfl hg_226 ?_
 refine WL.run hS rfl rfl rfl (ex_leq rfl rfl) ?_
 refine WL.run hS rfl rfl rfl (ex_pick_t rfl hg_226 rfl) ?_
 refine WL.mv rfl rfl ?_
 rcases Bool.eq_false_or_eq_true (decide ((byte text_4 k_172) ≤ (126 : Int))) with hg_228 | hg_228
 replace hV := hV.1 (of_decide_eq_true hg_228)
 refine WL.unguard rfl rfl hg_228 ?_
 refine WL.mv rfl rfl ?_
 refine WL.unguard rfl rfl hg_228 ?_
 refine WL.run hS rfl rfl rfl (ex_nilCheck rfl) ?_
 refine WL.unguard rfl rfl hg_228 ?_
 refine WL.run hS rfl rfl rfl (ex_fieldAddr (o' := 0) Tryz.underlying62 rfl Tryz.sizeOf9 rfl rfl) ?_
 refine WL.unguard rfl rfl hg_228 ?_
 refine WL.run hS rfl rfl rfl (ex_load_box Tryz.isAgg9 rfl rfl) ?_
 refine WL.unguard rfl rfl hg_228 ?_
 refine WL.mv rfl rfl ?_
 refine WL.unguard rfl rfl hg_228 ?_
 obtain ⟨hin_229, hV⟩ := hV
 refine WL.run hS rfl rfl rfl (ex_s_index Tryz.underlying9 rfl rfl hin_229) ?_
 refine WL.unguard rfl rfl hg_228 ?_
 refine WL.run hS rfl rfl rfl (ex_neq rfl rfl) ?_
 refine WL.run hS rfl rfl rfl (ex_pick_t rfl hg_228 rfl) ?_
 refine WL.nil ?_
 replace hS := hS.f2.f2
 exact WQ.there fun a ha => ⟨decide ((byte text_4 k_172) ≠ (92 : Int)), hV, hS, ha.of_sub ⟨rfl, rfl, rfl, rfl, rfl, trivial⟩⟩
 replace hV := hV.2 (of_decide_eq_false hg_228)
 refine WL.skip_g rfl rfl rfl hg_228 rfl rfl ?_
 refine WL.skip_g rfl rfl rfl hg_228 rfl rfl ?_
 refine WL.skip_g rfl rfl rfl hg_228 rfl rfl ?_
 refine WL.skip_g rfl rfl rfl hg_228 rfl rfl ?_
 refine WL.skip_g rfl rfl rfl hg_228 rfl rfl ?_
 refine WL.skip_g rfl rfl rfl hg_228 rfl rfl ?_
 refine WL.skip_g rfl rfl rfl hg_228 rfl rfl ?_
 refine WL.run hS rfl rfl rfl (ex_pick_f rfl hg_228 rfl) ?_
 refine WL.nil ?_
 replace hS := hS.f2.f2
 exact WQ.there fun a ha => ⟨false, hV, hS, ha.of_sub ⟨rfl, rfl, rfl, rfl, rfl, trivial⟩⟩
 replace hV := hV.2 (of_decide_eq_false hg_226)
 refine WL.skip_g rfl rfl rfl hg_226 rfl rfl ?_
 refine WL.skip_g rfl rfl rfl hg_226 rfl rfl ?_
 refine WL.skip_g rfl rfl rfl hg_226 rfl rfl ?_
 refine WL.skip_g rfl rfl rfl hg_226 rfl rfl ?_
 refine WL.skip_g rfl rfl rfl hg_226 rfl rfl ?_
 refine WL.skip_g rfl rfl rfl hg_226 rfl rfl ?_
 refine WL.skip_g rfl rfl rfl hg_226 rfl rfl ?_
 refine WL.run hS rfl rfl rfl (ex_pick_f rfl hg_226 rfl) ?_
 refine WL.mv rfl rfl ?_
 refine WL.skip_g rfl rfl rfl rfl rfl rfl ?_
 refine WL.skip_g rfl rfl rfl rfl rfl rfl ?_
 refine WL.skip_g rfl rfl rfl rfl rfl rfl ?_
 refine WL.skip_g rfl rfl rfl rfl rfl rfl ?_
 refine WL.skip_g rfl rfl rfl rfl rfl rfl ?_
 refine WL.skip_g rfl rfl rfl rfl rfl rfl ?_
 refine WL.skip_g rfl rfl rfl rfl rfl rfl ?_
 refine WL.run hS rfl rfl rfl (ex_pick_f rfl rfl rfl) ?_
 refine WL.nil ?_
 replace hS := hS.f2.f2
 exact WQ.there fun a ha => ⟨false, hV, hS, ha.of_sub ⟨rfl, rfl, rfl, rfl, rfl, trivial⟩⟩
 replace hV := hV.2 (of_decide_eq_false hg_224)
 refine WL.skip_g rfl rfl rfl hg_224 rfl rfl ?_
 refine WL.skip_g rfl rfl rfl hg_224 rfl rfl ?_
 refine WL.skip_g rfl rfl rfl hg_224 rfl rfl ?_
 refine WL.skip_g rfl rfl rfl hg_224 rfl rfl ?_
 refine WL.skip_g rfl rfl rfl hg_224 rfl rfl ?_
 refine WL.skip_g rfl rfl rfl hg_224 rfl rfl ?_
 refine WL.skip_g rfl rfl rfl hg_224 rfl rfl ?_
 refine WL.run hS rfl rfl rfl (ex_pick_f rfl hg_224 rfl) ?_
 refine WL.mv rfl rfl ?_
 refine WL.skip_g rfl rfl rfl rfl rfl rfl ?_
 refine WL.skip_g rfl rfl rfl rfl rfl rfl ?_
 refine WL.skip_g rfl rfl rfl rfl rfl rfl ?_
 refine WL.skip_g rfl rfl rfl rfl rfl rfl ?_
 refine WL.skip_g rfl rfl rfl rfl rfl rfl ?_
 refine WL.skip_g rfl rfl rfl rfl rfl rfl ?_
 refine WL.skip_g rfl rfl rfl rfl rfl rfl ?_
 refine WL.run hS rfl rfl rfl (ex_pick_f rfl rfl rfl) ?_
 refine WL.mv rfl rfl ?_
 refine WL.skip_g rfl rfl rfl rfl rfl rfl ?_
 refine WL.skip_g rfl rfl rfl rfl rfl rfl ?_
 refine WL.skip_g rfl rfl rfl rfl rfl rfl ?_
 refine WL.skip_g rfl rfl rfl rfl rfl rfl ?_
 refine WL.skip_g rfl rfl rfl rfl rfl rfl ?_
 refine WL.skip_g rfl rfl rfl rfl rfl rfl ?_
 refine WL.skip_g rfl rfl rfl rfl rfl rfl ?_
 refine WL.run hS rfl rfl rfl (ex_pick_f rfl rfl rfl) ?_
 refine WL.nil ?_
 replace hS := hS.f2.f2
 exact WQ.there fun a ha => ⟨false, hV, hS, ha.of_sub ⟨rfl, rfl, rfl, rfl, rfl, trivial⟩⟩
 intro hc_253
 replace hV := hV.2 hc_253
 refine WC.skip ?_
 replace hS := hS.f2
 exact WQ.there fun a ha => ⟨hV, hS, ha.of_sub ⟨rfl, rfl, rfl, trivial⟩⟩

def H_value (G : Str → Int → Int → Bool → (Int → Int → Prop) → (Val → Int → Int → Bool → Prop) → Prop) : Prop := ∀ {w0 : World} {H : View} {L : Seg} {w : World} {b_2 : Nat} {text_4 : Str} {xat_5 : Int} {deep_7 : Int} {heavy_9 : Bool} {E : Int → Int → Prop} {Q : Val → Int → Int → Bool → Prop} (hr_6 : I64 xat_5) (hr_8 : I64 deep_7) (hN : GlobN w0 H) (hS : St w0 H ([(b_2, oc #[sv text_4, i6 xat_5, i6 deep_7, .bool heavy_9] 62)] ++ L) w) (hV : G text_4 xat_5 deep_7 heavy_9 E Q), Calls Tryz.prog 23 #[(pq b_2)] w fun e w' => (∃ (r1 : Val) (r2 : Int) (r3 : Int) (r4 : Bool) (u1 : Value) (H' : View), Q r1 r2 r3 r4 ∧ e = .returned (.agg #[u1]) ∧ View.le H H' ∧ IsW H' u1 r1 ∧ I64 r2 ∧ I64 r3 ∧ St w0 H' ([(b_2, oc #[sv text_4, i6 r2, i6 r3, .bool r4] 62)] ++ L) w') ∨ (∃ e1 a1, E e1 a1 ∧ e = .panicked (faultC e1 a1) ∧ ∃ H1, View.le H H1 ∧ St w0 H1 L w')

theorem S_value1 {G : Str → Int → Int → Bool → (Int → Int → Prop) → (Val → Int → Int → Bool → Prop) → Prop} (hG : H_value G) {w0 : World} {H : View} {L : Seg} {w : World} {b_2 : Nat} {v_5 : Value} {c_1_4 : List (Val)} {fp_7 : Seg} {b_10 : Nat} {b_13 : Nat} {text_15 : Str} {xat_16 : Int} {deep_18 : Int} {heavy_20 : Bool} {E : Int → Int → Prop} {Q : (List (Val)) → Int → Int → Bool → Prop} (h_6 : OwnSl H cV 25 v_5 c_1_4 fp_7) (hr_17 : I64 xat_16) (hr_19 : I64 deep_18) (hN : GlobN w0 H) (hS : St w0 H ([(b_2, oc #[v_5] 42)] ++ (fp_7 ++ ([(b_10, oc #[(pq b_13)] 60)] ++ ([(b_13, oc #[sv text_15, i6 xat_16, i6 deep_18, .bool heavy_20] 62)] ++ L)))) w) (hV : V_value1 G c_1_4 text_15 xat_16 deep_18 heavy_20 E Q) :
 Calls Tryz.prog 56 #[(pq b_2), (pq b_10)] w fun e w' => (∃ (r1 : List (Val)) (r2 : Int) (r3 : Int) (r4 : Bool) (v1 : Value) (fp1 : Seg) (H' : View), Q r1 r2 r3 r4 ∧ e = .returned (.tuple #[]) ∧ View.le H H' ∧ OwnSl H' cV 25 v1 r1 fp1 ∧ I64 r2 ∧ I64 r3 ∧ St w0 H' ([(b_2, oc #[v1] 42)] ++ (fp1 ++ ([(b_10, oc #[(pq b_13)] 60)] ++ ([(b_13, oc #[sv text_15, i6 r2, i6 r3, .bool r4] 62)] ++ L)))) w') ∨ (∃ e1 a1, E e1 a1 ∧ e = .panicked (faultC e1 a1) ∧ ∃ H1, View.le H H1 ∧ St w0 H1 L w') := by
 unfold V_value1 at hV
 refine enter Tryz.func56 rfl Tryz.ntmps56 rfl (lk_args_cons (d := 0) (v := (pq b_2)) rfl (lk_args_cons (d := 1) (v := (pq b_10)) rfl (lk_args_nil _))) ?_
 refine DP.WC.drawn (σ := [0, 1, 2, 3, 4, 5]) (C := St w0 H ([(b_2, oc #[v_5] 42)] ++ (fp_7 ++ ([(b_10, oc #[(pq b_13)] 60)] ++ ([(b_13, oc #[sv text_15, i6 xat_16, i6 deep_18, .bool heavy_20] 62)] ++ L))))) (Pn := fun c w => ∃ e1 a1, E e1 a1 ∧ Ending.panicked c = .panicked (faultC e1 a1) ∧ ∃ H1, View.le H H1 ∧ St w0 H1 L w) [[], [], [1], [1, 2], [0, 1, 2, 3], [0, 1, 2, 3, 4]] [2, 3, 4, 5] (fun c a w hd hp => And.intro hd (.inr hp)) Tryz.mixed (by kernel_rfl) (hS.drawn _) ?_
 clear hS w
 refine DP.Wd.runb (off := 0) rfl rfl rfl rfl (fun _ _ _ h => ex_load_box Tryz.isAgg42 rfl h) rfl (fun _ h => h) fun q_22 hq_21 => ?_
 refine DP.Wd.runb (off := 0) rfl rfl rfl rfl (fun _ _ _ h => ex_load_box Tryz.isAgg60 rfl h) rfl (fun _ h => St.f3 h) fun q_24 hq_23 => ?_
 refine DP.Wd.turn rfl rfl rfl fun w hS => ?_
 replace hS := hS.f4
 refine WL.callP rfl rfl rfl (enters0 (vs := [(pq b_13)]) Tryz.call23 ⟨rfl, trivial⟩) (hG hr_17 hr_19 hN hS hV) (by rintro _ w ⟨e_35, xat_36, hE_37, rfl, H_38, le_39, hS⟩; exact ⟨_, rfl, DP.DQ.pan ⟨e_35, xat_36, hE_37, rfl, _, ((View.le.refl _).trans le_39), hS.drop.drop.drop⟩⟩) ?_
 clear hV hS
 rintro _ w ⟨r_25, r_28, r_30, r_32, u_26, H_33, hV, rfl, le_34, h_27, hr_29, hr_31, hS⟩
 refine ⟨_, rfl, ?_⟩
 refine WL.nil (DP.DQ.mk2 (C' := St w0 H_33 ([(b_13, oc #[sv text_15, i6 r_28, i6 r_30, .bool r_32] 62)] ++ ([(b_2, oc #[v_5] 42)] ++ (fp_7 ++ ([(b_10, oc #[(pq b_13)] 60)] ++ L))))) hS ⟨il, .inr (hq_21 H_33 ([(b_13, oc #[sv text_15, i6 r_28, i6 r_30, .bool r_32] 62)] ++ (fp_7 ++ ([(b_10, oc #[(pq b_13)] 60)] ++ L))) #[v_5] _ rfl (fun _ h => St.f2 h)), trivial⟩ ?_)
 clear hS w
 refine DP.Wd.turn rfl rfl rfl fun w hS => ?_
 refine WL.builds (c := cV) (xs := [r_25]) (vs := [.agg #[u_26]]) (css := [[u_26]]) rfl Tryz.underlying42 Tryz.info25 rfl ⟨rfl, trivial⟩ rfl (by decide) rfl (by simp; rfl) ⟨[u_26], _, rfl, (cV_mk h_27), rfl⟩ hS rfl (by decide) ?_
 clear hS
 intro v_41 w fp_42 h_43 hS
 refine WL.nil (DP.DQ.mk2 (C' := St w0 H_33 (fp_42 ++ ([(b_13, oc #[sv text_15, i6 r_28, i6 r_30, .bool r_32] 62)] ++ ([(b_2, oc #[v_5] 42)] ++ (fp_7 ++ ([(b_10, oc #[(pq b_13)] 60)] ++ L)))))) hS ⟨il, .inr (hq_21 H_33 (fp_42 ++ ([(b_13, oc #[sv text_15, i6 r_28, i6 r_30, .bool r_32] 62)] ++ (fp_7 ++ ([(b_10, oc #[(pq b_13)] 60)] ++ L)))) #[v_5] _ rfl (fun _ h => St.f3 h)), trivial⟩ ?_)
 clear hS w
 refine DP.Wd.turn rfl rfl rfl fun w hS => ?_
 obtain ⟨hr_44, hV⟩ := hV
 replace hS := hS.f4
 refine WL.append (c := cV) (xs := c_1_4) (ys := ([r_25])) rfl Tryz.underlying42 Tryz.info25 rfl rfl rfl hS (h_6.mono le_34) (h_43.src hS.f2) hr_44.1 hr_44.2 ?_
 clear hS
 intro v_45 w fp_46 h_47 hS
 refine WL.nil (DP.DQ.mk2 (C' := St w0 H_33 (fp_46 ++ (fp_42 ++ ([(b_13, oc #[sv text_15, i6 r_28, i6 r_30, .bool r_32] 62)] ++ ([(b_2, oc #[v_5] 42)] ++ ([(b_10, oc #[(pq b_13)] 60)] ++ L)))))) hS ⟨il, il, trivial⟩ ?_)
 clear hS w
 refine DP.Wd.turn rfl rfl rfl fun w hS => ?_
 replace hS := hS.f4
 refine WL.store_box (pre := []) (old := [v_5]) (rst := []) (cs := [v_45]) (arr' := #[v_45]) Tryz.sizeOf42 rfl rfl (congrArg Array.toList (cells_one (OwnSl.one h_47))) ⟨(OwnSl.one h_47), trivial⟩ rfl rfl rfl rfl hS ?_
 clear hS
 intro w hS
 refine WL.nil (DP.DQ.mk2 (C' := St w0 H_33 ([(b_2, oc #[v_45] 42)] ++ (fp_46 ++ (fp_42 ++ ([(b_13, oc #[sv text_15, i6 r_28, i6 r_30, .bool r_32] 62)] ++ ([(b_10, oc #[(pq b_13)] 60)] ++ L)))))) hS ⟨il, il, trivial⟩ ?_)
 clear hS w
 refine DP.Wd.nil fun w hS => ?_
 replace hS := hS.f3.drop
 replace hS := hS.f3.f4.f4.f4
 exact leave0 (.inr rfl) rfl (.inl ⟨(c_1_4 ++ ([r_25])), r_28, r_30, r_32, v_45, fp_46, H_33, hV, rfl, ((View.le.refl _).trans le_34), h_47, hr_29, hr_31, hS⟩)

end Go.Proofs.YtlhkfkecoekoeaaGreatDoor
