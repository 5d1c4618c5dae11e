/- For each function: what is to be shown of plain data so that it does its work. Printed by program. -/
import Derived.Test.YtmdoicffgeihcaaGreatDoorUns
import Derived.Test.YtmdoicffgeihcaaGreatDoorTold
import Derived.Test.YtmdoicffgeihcaaGreatDoorManSS
import Derived.Test.YtmdoicffgeihcaaGreatDoorRng
set_option linter.unusedVariables false
namespace Go.Vc
/-- sextantsame.Ints: what is to be shown. -/
def V_sameInts (a_1 : LI) (b_4 : LI) (Q : Bool → Prop) : Prop :=
 (Len a_1 →
 (Len b_4 →
 ((a_1.length : Int) ≠ (b_4.length : Int) →
 Q false) ∧
 (¬ ((a_1.length : Int) ≠ (b_4.length : Int)) →
 VLoop (σ := Int) 0 fun i_33 xnext_60 =>
 (Len a_1 →
 (i_33 < (a_1.length : Int) →
 In i_33 a_1 ∧
 (I64 (ix a_1 i_33) →
 In i_33 b_4 ∧
 (I64 (ix b_4 i_33) →
 ((ix a_1 i_33) ≠ (ix b_4 i_33) →
 Q false) ∧
 (¬ ((ix a_1 i_33) ≠ (ix b_4 i_33)) →
 I64 (i_33 + 1) ∧
 xnext_60 (i_33 + 1))))) ∧
 (¬ (i_33 < (a_1.length : Int)) →
 Q true)))))

/-- sextantref9.size: what is to be shown. -/
def V_size (l_1 : Int) (Q : Int → Prop) : Prop :=
 (l_1 < 0 →
 Q (wneg l_1)) ∧
 (¬ (l_1 < 0) →
 Q l_1)

/-- sextantref9.Literal: what is to be shown. -/
def V_Literal (n_1 : Int) (l_3 : Int) (Q : Bool → Prop) : Prop :=
 VMeet (σ := Bool) (fun x_10 =>
 Q x_10) fun J_11 =>
 (l_3 ≠ 0 →
 ((wneg n_1) ≤ l_3 →
 J_11 (decide (l_3 ≤ n_1))) ∧
 (¬ ((wneg n_1) ≤ l_3) →
 J_11 false)) ∧
 (¬ (l_3 ≠ 0) →
 J_11 false)

/-- sextantref9.literals: what is to be shown. -/
def V_refLiterals (n_1 : Int) (l_3 : LI) (Q : Bool → Prop) : Prop :=
 VLoop (σ := Int) 0 fun i_22 xnext_42 =>
 (Len l_3 →
 (i_22 < (l_3.length : Int) →
 In i_22 l_3 ∧
 (I64 (ix l_3 i_22) →
 V_Literal n_1 (ix l_3 i_22) fun r_53 =>
 ((!r_53) = true →
 Q false) ∧
 ((!r_53) = false →
 I64 (i_22 + 1) ∧
 xnext_42 (i_22 + 1)))) ∧
 (¬ (i_22 < (l_3.length : Int)) →
 Q true))

/-- sextantref9.Fault: what is to be shown. -/
def V_Fault (n_1 : Int) (clauses_3 : List LI) (Q : Int → Prop) : Prop :=
 ((n_1 < 0) ∨ (16777216 < n_1) →
 Q 5) ∧
 (¬ ((n_1 < 0) ∨ (16777216 < n_1)) →
 (Len clauses_3 →
 (33554432 < (clauses_3.length : Int) →
 Q 6) ∧
 (¬ (33554432 < (clauses_3.length : Int)) →
 VLoop (σ := Int) 0 fun i_28 xnext_47 =>
 (Len clauses_3 →
 (i_28 < (clauses_3.length : Int) →
 In i_28 clauses_3 ∧
 V_refLiterals n_1 (ix clauses_3 i_28) fun r_57 =>
 ((!r_57) = true →
 Q 5) ∧
 ((!r_57) = false →
 I64 (i_28 + 1) ∧
 xnext_47 (i_28 + 1))) ∧
 (¬ (i_28 < (clauses_3.length : Int)) →
 Q 0)))))

/-- sextantref9.set: what is to be shown. -/
def V_refSet (val_1 : LI) (l_6 : Int) (Q : Bool → LI → Prop) : Prop :=
 VMeet (σ := Int) (fun v_10 =>
 V_size l_6 fun r_16 =>
 In r_16 val_1 ∧
 (I64 (ix val_1 r_16) →
 I64 (-v_10) ∧
 ((ix val_1 r_16) = (-v_10) →
 Q false val_1) ∧
 (¬ ((ix val_1 r_16) = (-v_10)) →
 In r_16 val_1 ∧
 Q true (val_1.set r_16.toNat v_10)))) fun J_12 =>
 (l_6 < 0 →
 J_12 (-1)) ∧
 (¬ (l_6 < 0) →
 J_12 1)

/-- sextantref9.unit: what is to be shown. -/
def V_refUnit (val_1 : LI) (c_4 : LI) (Q : Int → Int → Prop) : Prop :=
 VLoop (σ := Int × Int) (0, 0) fun (xopen_190, i_192) xnext_379 =>
 (Len c_4 →
 (i_192 < (c_4.length : Int) →
 VMeet (σ := Int) (fun xopen_469 =>
 I64 (i_192 + 1) ∧
 xnext_379 (xopen_469, (i_192 + 1))) fun J_471 =>
 In i_192 c_4 ∧
 (I64 (ix c_4 i_192) →
 V_size (ix c_4 i_192) fun r_481 =>
 In r_481 val_1 ∧
 (I64 (ix val_1 r_481) →
 VMeet (σ := Int) (fun v_503 =>
 (0 < v_503 →
 Q 0 2) ∧
 (¬ (0 < v_503) →
 VMeet (σ := Bool) (fun x_532 =>
 (x_532 = true →
 Q 0 2) ∧
 (x_532 = false →
 (v_503 = 0 →
 In i_192 c_4 ∧
 (I64 (ix c_4 i_192) →
 J_471 (ix c_4 i_192))) ∧
 (¬ (v_503 = 0) →
 J_471 xopen_190))) fun J_533 =>
 (v_503 = 0 →
 (xopen_190 ≠ 0 →
 In i_192 c_4 ∧
 (I64 (ix c_4 i_192) →
 J_533 (decide ((ix c_4 i_192) ≠ xopen_190)))) ∧
 (¬ (xopen_190 ≠ 0) →
 J_533 false)) ∧
 (¬ (v_503 = 0) →
 J_533 false))) fun J_505 =>
 In i_192 c_4 ∧
 (I64 (ix c_4 i_192) →
 ((ix c_4 i_192) < 0 →
 I64 (-(ix val_1 r_481)) ∧
 J_505 (-(ix val_1 r_481))) ∧
 (¬ ((ix c_4 i_192) < 0) →
 J_505 (ix val_1 r_481)))))) ∧
 (¬ (i_192 < (c_4.length : Int)) →
 (xopen_190 = 0 →
 Q 0 0) ∧
 (¬ (xopen_190 = 0) →
 Q xopen_190 1)))

/-- sextantref9.Follow: what is to be shown. -/
def V_refFollow (n_1 : Int) (clauses_3 : List LI) (given_6 : LI) (Q : LI → Bool → Prop) : Prop :=
 I64 (n_1 + 1) ∧
 Made (n_1 + 1) 8 ∧
 VLoop (σ := LI × Int) ((List.replicate (n_1 + 1).toNat (0 : Int)), 0) fun (val_38, i_42) xnext_66 =>
 (Len given_6 →
 (i_42 < (given_6.length : Int) →
 In i_42 given_6 ∧
 (I64 (ix given_6 i_42) →
 V_refSet val_38 (ix given_6 i_42) fun r_77 c_78 =>
 ((!r_77) = true →
 Q ([] : LI) false) ∧
 ((!r_77) = false →
 I64 (i_42 + 1) ∧
 xnext_66 (c_78, (i_42 + 1))))) ∧
 (¬ (i_42 < (given_6.length : Int)) →
 VLoop (σ := LI) val_38 fun val_289 xnext_497 =>
 VLoop (σ := LI × Bool × Int) (val_289, false, 0) fun (val_562, more_566, i_567) xnext_634 =>
 (Len clauses_3 →
 (i_567 < (clauses_3.length : Int) →
 VMeet (σ := LI × Bool) (fun (val_663, more_667) =>
 I64 (i_567 + 1) ∧
 xnext_634 (val_663, more_667, (i_567 + 1))) fun J_668 =>
 In i_567 clauses_3 ∧
 V_refUnit val_562 (ix clauses_3 i_567) fun r_678 r_680 =>
 (r_680 = 0 →
 Q ([] : LI) false) ∧
 (¬ (r_680 = 0) →
 (r_680 = 1 →
 V_refSet val_562 r_678 fun r_688 c_689 =>
 J_668 (c_689, true)) ∧
 (¬ (r_680 = 1) →
 J_668 (val_562, more_566)))) ∧
 (¬ (i_567 < (clauses_3.length : Int)) →
 ((!more_566) = true →
 Q val_562 true) ∧
 ((!more_566) = false →
 xnext_497 val_562)))))

/-- sextantref9.within: what is to be shown. -/
def V_within (a_1 : LI) (b_4 : LI) (Q : Bool → Prop) : Prop :=
 VLoop (σ := Int) 0 fun i_147 xnext_291 =>
 (Len a_1 →
 (i_147 < (a_1.length : Int) →
 VLoop (σ := Bool × Int) (false, 0) fun (there_333, k_334) xnext_382 =>
 (Len b_4 →
 (k_334 < (b_4.length : Int) →
 VMeet (σ := Bool) (fun there_403 =>
 I64 (k_334 + 1) ∧
 xnext_382 (there_403, (k_334 + 1))) fun J_404 =>
 (there_333 = true →
 J_404 true) ∧
 (there_333 = false →
 In i_147 a_1 ∧
 (I64 (ix a_1 i_147) →
 In k_334 b_4 ∧
 (I64 (ix b_4 k_334) →
 J_404 (decide ((ix a_1 i_147) = (ix b_4 k_334))))))) ∧
 (¬ (k_334 < (b_4.length : Int)) →
 ((!there_333) = true →
 Q false) ∧
 ((!there_333) = false →
 I64 (i_147 + 1) ∧
 xnext_291 (i_147 + 1))))) ∧
 (¬ (i_147 < (a_1.length : Int)) →
 Q true))

/-- sextantref9.alike: what is to be shown. -/
def V_refAlike (a_1 : LI) (b_4 : LI) (Q : Bool → Prop) : Prop :=
 V_within a_1 b_4 fun r_7 =>
 V_within b_4 a_1 fun r_9 =>
 Q (decide ((r_7 = true) ∧ (r_9 = true)))

/-- sextantref9.gone: what is to be shown. -/
def V_gone (l_1 : List LI) (c_6 : LI) (Q : (List LI) → Prop) : Prop :=
 VLoop (σ := Int) 0 fun i_45 xnext_84 =>
 (Len l_1 →
 (i_45 < (l_1.length : Int) →
 In i_45 l_1 ∧
 V_refAlike (ix l_1 i_45) c_6 fun r_94 =>
 (r_94 = true →
 ((0 : Int) ≤ i_45 ∧ i_45 ≤ (l_1.length : Int)) ∧
 Room (([] : List LI).length + (l_1.take i_45.toNat).length) 24 ∧
 I64 (i_45 + 1) ∧
 (0 ≤ (i_45 + 1) ∧ (i_45 + 1) ≤ (l_1.length : Int)) ∧
 Room ((l_1.take i_45.toNat).length + (l_1.drop (i_45 + 1).toNat).length) 24 ∧
 Q ((l_1.take i_45.toNat) ++ (l_1.drop (i_45 + 1).toNat))) ∧
 (r_94 = false →
 I64 (i_45 + 1) ∧
 xnext_84 (i_45 + 1))) ∧
 (¬ (i_45 < (l_1.length : Int)) →
 Q l_1))

/-- sextantref9.Makes: what is to be shown. -/
def V_Makes (c_1 : LI) (model_4 : List Bool) (Q : Bool → Prop) : Prop :=
 VLoop (σ := Int) 0 fun i_73 xnext_143 =>
 (Len c_1 →
 (i_73 < (c_1.length : Int) →
 In i_73 c_1 ∧
 (I64 (ix c_1 i_73) →
 V_size (ix c_1 i_73) fun r_154 =>
 VMeet (σ := Bool) (fun x_180 =>
 (x_180 = true →
 Q true) ∧
 (x_180 = false →
 I64 (i_73 + 1) ∧
 xnext_143 (i_73 + 1))) fun J_181 =>
 (0 < r_154 →
 (Len model_4 →
 (r_154 ≤ (model_4.length : Int) →
 I64 (r_154 - 1) ∧
 In (r_154 - 1) model_4 ∧
 In i_73 c_1 ∧
 (I64 (ix c_1 i_73) →
 J_181 ((ix model_4 (r_154 - 1)) == (decide (0 < (ix c_1 i_73)))))) ∧
 (¬ (r_154 ≤ (model_4.length : Int)) →
 J_181 false))) ∧
 (¬ (0 < r_154) →
 J_181 false))) ∧
 (¬ (i_73 < (c_1.length : Int)) →
 Q false))

/-- sextantref9.Models: what is to be shown. -/
def V_Models (clauses_1 : List LI) (model_4 : List Bool) (Q : Bool → Prop) : Prop :=
 VLoop (σ := Int) 0 fun i_22 xnext_41 =>
 (Len clauses_1 →
 (i_22 < (clauses_1.length : Int) →
 In i_22 clauses_1 ∧
 V_Makes (ix clauses_1 i_22) model_4 fun r_51 =>
 ((!r_51) = true →
 Q false) ∧
 ((!r_51) = false →
 I64 (i_22 + 1) ∧
 xnext_41 (i_22 + 1))) ∧
 (¬ (i_22 < (clauses_1.length : Int)) →
 Q true))

/-- sextantlaw9.copied: what is to be shown. -/
def V_copied (l_1 : List LI) (Q : (List LI) → Prop) : Prop :=
 VLoop (σ := (List LI) × Int) (([] : List LI), 0) fun (out_77, i_81) xnext_118 =>
 (Len l_1 →
 (i_81 < (l_1.length : Int) →
 In i_81 l_1 ∧
 Room (([] : LI).length + (ix l_1 i_81).length) 8 ∧
 Room (out_77.length + ([(ix l_1 i_81)]).length) 24 ∧
 I64 (i_81 + 1) ∧
 xnext_118 ((out_77 ++ ([(ix l_1 i_81)])), (i_81 + 1))) ∧
 (¬ (i_81 < (l_1.length : Int)) →
 Q out_77))

/-- sextantlaw9.sameClauses: what is to be shown. -/
def V_sameClauses (a_1 : List LI) (b_4 : List LI) (Q : Bool → Prop) : Prop :=
 (Len a_1 →
 (Len b_4 →
 ((a_1.length : Int) ≠ (b_4.length : Int) →
 Q false) ∧
 (¬ ((a_1.length : Int) ≠ (b_4.length : Int)) →
 VLoop (σ := Int) 0 fun i_50 xnext_94 =>
 (Len a_1 →
 (i_50 < (a_1.length : Int) →
 In i_50 a_1 ∧
 In i_50 b_4 ∧
 V_sameInts (ix a_1 i_50) (ix b_4 i_50) fun r_127 =>
 ((!r_127) = true →
 Q false) ∧
 ((!r_127) = false →
 I64 (i_50 + 1) ∧
 xnext_94 (i_50 + 1))) ∧
 (¬ (i_50 < (a_1.length : Int)) →
 Q true)))))

/-- sextantref9.Checked: what is to be shown. -/
def V_refChecked (n_1 : Int) (clauses_3 : List LI) (proof_6 : List (Bool × LI)) (Q : Bool → Prop) : Prop :=
 V_Fault n_1 clauses_3 fun r_9 =>
 (r_9 ≠ 0 →
 Q false) ∧
 (¬ (r_9 ≠ 0) →
 VLoop (σ := Int) 0 fun i_30 xnext_51 =>
 (Len proof_6 →
 (i_30 < (proof_6.length : Int) →
 In i_30 proof_6 ∧
 V_refLiterals n_1 ((ix proof_6 i_30).2) fun r_63 =>
 ((!r_63) = true →
 Q false) ∧
 ((!r_63) = false →
 I64 (i_30 + 1) ∧
 xnext_51 (i_30 + 1))) ∧
 (¬ (i_30 < (proof_6.length : Int)) →
 Room (([] : List LI).length + clauses_3.length) 24 ∧
 VLoop (σ := (List LI) × Bool × Int) (clauses_3, false, 0) fun (l_352, shown_356, i_357) xnext_640 =>
 (Len proof_6 →
 (i_357 < (proof_6.length : Int) →
 VMeet (σ := (List LI) × Bool) (fun (l_777, shown_781) =>
 I64 (i_357 + 1) ∧
 xnext_640 (l_777, shown_781, (i_357 + 1))) fun J_782 =>
 In i_357 proof_6 ∧
 In i_357 proof_6 ∧
 (((ix proof_6 i_357).1) = true →
 V_gone l_352 ((ix proof_6 i_357).2) fun r_802 =>
 J_782 (r_802, shown_356)) ∧
 (((ix proof_6 i_357).1) = false →
 VLoop (σ := LI × Int) (([] : LI), 0) fun (opposite_833, k_837) xnext_864 =>
 (Len ((ix proof_6 i_357).2) →
 (k_837 < (((ix proof_6 i_357).2).length : Int) →
 In k_837 ((ix proof_6 i_357).2) ∧
 (I64 (ix ((ix proof_6 i_357).2) k_837) →
 I64 (-(ix ((ix proof_6 i_357).2) k_837)) ∧
 Room (opposite_833.length + ([(-(ix ((ix proof_6 i_357).2) k_837))]).length) 8 ∧
 I64 (k_837 + 1) ∧
 xnext_864 ((opposite_833 ++ ([(-(ix ((ix proof_6 i_357).2) k_837))])), (k_837 + 1)))) ∧
 (¬ (k_837 < (((ix proof_6 i_357).2).length : Int)) →
 V_refFollow n_1 l_352 opposite_833 fun r_889 r_894 =>
 (r_894 = true →
 Q false) ∧
 (r_894 = false →
 Room (l_352.length + ([((ix proof_6 i_357).2)]).length) 24 ∧
 (Len ((ix proof_6 i_357).2) →
 J_782 ((l_352 ++ ([((ix proof_6 i_357).2)])), decide ((shown_356 = true) ∨ ((((ix proof_6 i_357).2).length : Int) = 0))))))))) ∧
 (¬ (i_357 < (proof_6.length : Int)) →
 Q shown_356)))))

/-- sat.valid$1: what is to be shown. -/
def V_valid1 (l_1 : Int) (c_3_6 : Int) (Q : Bool → Prop) : Prop :=
 VMeet (σ := Bool) (fun x_14 =>
 Q x_14) fun J_15 =>
 (l_1 = 0 →
 J_15 true) ∧
 (¬ (l_1 = 0) →
 (c_3_6 < l_1 →
 J_15 true) ∧
 (¬ (c_3_6 < l_1) →
 I64 (-c_3_6) ∧
 J_15 (decide (l_1 < (-c_3_6)))))

/-- slices.IndexFunc[[]int,int]: what is to be shown. -/
def V_IndexFuncI (s_1 : LI) (G1 : Int → (Bool → Prop) → Prop) (Q : Int → Prop) : Prop :=
 (Len s_1 →
 VLoop (σ := Int) 0 fun x_21 xnext_39 =>
 (x_21 < (s_1.length : Int) →
 In x_21 s_1 ∧
 (I64 (ix s_1 x_21) →
 G1 (ix s_1 x_21) fun r_49 =>
 (r_49 = true →
 Q x_21) ∧
 (r_49 = false →
 I64 (x_21 + 1) ∧
 xnext_39 (x_21 + 1)))) ∧
 (¬ (x_21 < (s_1.length : Int)) →
 Q (-1)))

/-- slices.ContainsFunc[[]int,int]: what is to be shown. -/
def V_ContainsFuncI (s_1 : LI) (G1 : Int → (Bool → Prop) → Prop) (Q : Bool → Prop) : Prop :=
 V_IndexFuncI s_1 G1 fun r_6 =>
 Q (decide (0 ≤ r_6))

/-- sat.valid: what is to be shown. -/
def V_valid (n_1 : Int) (clause_3 : LI) (Q : Bool → Prop) : Prop :=
 V_ContainsFuncI clause_3 (fun x1 K => V_valid1 x1 n_1 K) fun r_8 =>
 Q (!r_8)

/-- sat.checked$1: what is to be shown. -/
def V_checked1 (c_1 : LI) (c_4_7 : Int) (Q : Bool → Prop) : Prop :=
 V_valid c_4_7 c_1 fun r_9 =>
 Q (!r_9)

/-- slices.IndexFunc[[][]int,[]int]: what is to be shown. -/
def V_IndexFuncL (s_1 : List LI) (G1 : LI → (Bool → Prop) → Prop) (Q : Int → Prop) : Prop :=
 (Len s_1 →
 VLoop (σ := Int) 0 fun x_20 xnext_37 =>
 (x_20 < (s_1.length : Int) →
 In x_20 s_1 ∧
 G1 (ix s_1 x_20) fun r_46 =>
 (r_46 = true →
 Q x_20) ∧
 (r_46 = false →
 I64 (x_20 + 1) ∧
 xnext_37 (x_20 + 1))) ∧
 (¬ (x_20 < (s_1.length : Int)) →
 Q (-1)))

/-- slices.ContainsFunc[[][]int,[]int]: what is to be shown. -/
def V_ContainsFuncL (s_1 : List LI) (G1 : LI → (Bool → Prop) → Prop) (Q : Bool → Prop) : Prop :=
 V_IndexFuncL s_1 G1 fun r_6 =>
 Q (decide (0 ≤ r_6))

/-- sat.checked: what is to be shown. -/
def V_checked (n_1 : Int) (clauses_3 : List LI) (more_6 : LI) (Q : (Option Int) → Prop) : Prop :=
 VMeet (σ := Bool) (fun x_14 =>
 (x_14 = true →
 Q (some 5)) ∧
 (x_14 = false →
 (Len clauses_3 →
 (33554432 < (clauses_3.length : Int) →
 Q (some 6)) ∧
 (¬ (33554432 < (clauses_3.length : Int)) →
 VMeet (σ := Bool) (fun x_27 =>
 (x_27 = true →
 Q (some 5)) ∧
 (x_27 = false →
 Q none)) fun J_28 =>
 V_ContainsFuncL clauses_3 (fun x1 K => V_checked1 x1 n_1 K) fun r_30 =>
 (r_30 = true →
 J_28 true) ∧
 (r_30 = false →
 V_valid n_1 more_6 fun r_33 =>
 J_28 (!r_33)))))) fun J_15 =>
 (n_1 < 0 →
 J_15 true) ∧
 (¬ (n_1 < 0) →
 J_15 (decide (16777216 < n_1)))

/-- slices.Clone[[]int,int]: what is to be shown. -/
def V_CloneI (s_1 : LI) (Q : LI → Prop) : Prop :=
 (∀ b_8 : Bool, (b_8 = true → s_1 = []) →
 (b_8 = true →
 Q ([] : LI)) ∧
 (b_8 = false →
 Room (([] : LI).length + s_1.length) 8 ∧
 Q s_1))

/-- slices.Index[[]int,int]: what is to be shown. -/
def V_IndexI (s_1 : LI) (v_4 : Int) (Q : Int → Prop) : Prop :=
 (Len s_1 →
 VLoop (σ := Int) 0 fun x_21 xnext_39 =>
 (x_21 < (s_1.length : Int) →
 In x_21 s_1 ∧
 (I64 (ix s_1 x_21) →
 (v_4 = (ix s_1 x_21) →
 Q x_21) ∧
 (¬ (v_4 = (ix s_1 x_21)) →
 I64 (x_21 + 1) ∧
 xnext_39 (x_21 + 1)))) ∧
 (¬ (x_21 < (s_1.length : Int)) →
 Q (-1)))

/-- slices.Contains[[]int,int]: what is to be shown. -/
def V_ContainsI (s_1 : LI) (v_4 : Int) (Q : Bool → Prop) : Prop :=
 V_IndexI s_1 v_4 fun r_6 =>
 Q (decide (0 ≤ r_6))

/-- sat.tidy$1: what is to be shown. -/
def V_tidy1 (l_1 : Int) (c_3_6 : LI) (Q : Bool → Prop) : Prop :=
 I64 (-l_1) ∧
 V_ContainsI c_3_6 (-l_1) fun r_10 =>
 Q r_10

/-- sat.tidy: what is to be shown. -/
def V_tidy (c_1 : LI) (Q : LI → Bool → Prop) : Prop :=
 V_CloneI c_1 fun r_5 =>
 V_SortI r_5 fun c_14 =>
 V_CompactI c_14 fun r_18 =>
 ∃ (r_26 : Bool), V_ContainsFuncI r_18 (fun x1 K => V_tidy1 x1 r_18 K) (fun y0 => y0 = r_26) ∧ 
 Q r_18 (!r_26)

/-- sextantlaw9.literals: what is to be shown. -/
def V_lawLiterals (n_1 : Int) (l_3 : LI) (Q : Bool → Prop) : Prop :=
 VLoop (σ := Int) 0 fun i_22 xnext_42 =>
 (Len l_3 →
 (i_22 < (l_3.length : Int) →
 In i_22 l_3 ∧
 (I64 (ix l_3 i_22) →
 V_Literal n_1 (ix l_3 i_22) fun r_53 =>
 ((!r_53) = true →
 Q false) ∧
 ((!r_53) = false →
 I64 (i_22 + 1) ∧
 xnext_42 (i_22 + 1)))) ∧
 (¬ (i_22 < (l_3.length : Int)) →
 Q true))

/-- plain.Told: what is to be shown. -/
def V_Told (err_1 : Option Int) (Q : Int → Prop) : Prop :=
 (err_1 = none →
 Q 0) ∧
 (¬ (err_1 = none) →
 V_As err_1 0 fun r_4 c_5 =>
 (r_4 = true →
 Q c_5) ∧
 (r_4 = false →
 Q (-1)))

/-- sextantsame.Error: what is to be shown. -/
def V_Error (err_1 : Option Int) (e_2 : Int) (Q : Bool → Prop) : Prop :=
 V_Told err_1 fun r_4 =>
 Q (decide (r_4 = e_2))

/-- cmp.isNaN[int]: what is to be shown. -/
def V_isNaN (x_1 : Int) (Q : Bool → Prop) : Prop :=
 Q (decide (x_1 ≠ x_1))

/-- (*sat.solver).of: what is to be shown. -/
def V_of (n_4 : Int) (clauses_6 : List Raw) (watch_11 : List (Int × Raw)) (value_16 : LI) (level_21 : LI) (reason_26 : LI) (trail_31 : LI) (starts_36 : LI) (head_41 : Int) (heat_43 : List Unit) (proof_51 : List (Bool × LI)) (dead_56 : Bool) (A_61 : Arena) (l_62 : Int) (Q : Int → Prop) : Prop :=
 (l_62 < 0 →
 I64 (-l_62) ∧
 In (-l_62) value_16 ∧
 (I64 (ix value_16 (-l_62)) →
 I64 (-(ix value_16 (-l_62))) ∧
 Q (-(ix value_16 (-l_62))))) ∧
 (¬ (l_62 < 0) →
 In l_62 value_16 ∧
 (I64 (ix value_16 l_62) →
 Q (ix value_16 l_62)))

/-- (*sat.solver).add$1: what is to be shown. -/
def V_add1 (a_1 : Int) (b_3 : Int) (n_11 : Int) (clauses_13 : List Raw) (watch_18 : List (Int × Raw)) (value_23 : LI) (level_28 : LI) (reason_33 : LI) (trail_38 : LI) (starts_43 : LI) (head_48 : Int) (heat_50 : List Unit) (proof_58 : List (Bool × LI)) (dead_63 : Bool) (A_68 : Arena) (Q : Int → Prop) : Prop :=
 ∃ (r_69 : Int), V_of n_11 clauses_13 watch_18 value_23 level_28 reason_33 trail_38 starts_43 head_48 heat_50 proof_58 dead_63 A_68 b_3 (fun y0 => y0 = r_69) ∧ I64 r_69 ∧
 ∃ (r_72 : Int), V_of n_11 clauses_13 watch_18 value_23 level_28 reason_33 trail_38 starts_43 head_48 heat_50 proof_58 dead_63 A_68 a_1 (fun y0 => y0 = r_72) ∧ I64 r_72 ∧
 I64 (r_69 - r_72) ∧
 Q (r_69 - r_72)

/-- slices.insertionSortCmpFunc[int]: what is to be shown. -/
def V_insSF (data_1 : LI) (a_6 : Int) (b_8 : Int) (n_17 : Int) (clauses_19 : List Raw) (watch_24 : List (Int × Raw)) (value_29 : LI) (level_34 : LI) (reason_39 : LI) (trail_44 : LI) (starts_49 : LI) (head_54 : Int) (heat_56 : List Unit) (proof_64 : List (Bool × LI)) (dead_69 : Bool) (A_74 : Arena) (Q : LI → Prop) : Prop :=
 I64 (a_6 + 1) ∧
 VLoop (σ := LI × Int) (data_1, (a_6 + 1)) fun (data_438, i_441) xnext_806 =>
 (i_441 < b_8 →
 VLoop (σ := LI × Int) (data_438, i_441) fun (data_924, j_927) xnext_1047 =>
 VMeet (σ := Bool) (fun x_1072 =>
 (x_1072 = true →
 I64 (j_927 - 1) ∧
 I64 (j_927 - 1) ∧
 In (j_927 - 1) data_924 ∧
 (I64 (ix data_924 (j_927 - 1)) →
 In j_927 data_924 ∧
 (I64 (ix data_924 j_927) →
 In j_927 data_924 ∧
 In (j_927 - 1) (data_924.set j_927.toNat (ix data_924 (j_927 - 1))) ∧
 I64 (j_927 - 1) ∧
 xnext_1047 (((data_924.set j_927.toNat (ix data_924 (j_927 - 1))).set (j_927 - 1).toNat (ix data_924 j_927)), (j_927 - 1))))) ∧
 (x_1072 = false →
 I64 (i_441 + 1) ∧
 xnext_806 (data_924, (i_441 + 1)))) fun J_1073 =>
 (a_6 < j_927 →
 In j_927 data_924 ∧
 (I64 (ix data_924 j_927) →
 I64 (j_927 - 1) ∧
 In (j_927 - 1) data_924 ∧
 (I64 (ix data_924 (j_927 - 1)) →
 ∃ (r_1095 : Int), V_add1 (ix data_924 j_927) (ix data_924 (j_927 - 1)) n_17 clauses_19 watch_24 value_29 level_34 reason_39 trail_44 starts_49 head_54 heat_56 proof_64 dead_69 A_74 (fun y0 => y0 = r_1095) ∧ I64 r_1095 ∧
 J_1073 (decide (r_1095 < 0))))) ∧
 (¬ (a_6 < j_927) →
 J_1073 false)) ∧
 (¬ (i_441 < b_8) →
 Q data_438)

/-- slices.swapRangeCmpFunc[int]: what is to be shown. -/
def V_swapSF (data_1 : LI) (a_6 : Int) (b_8 : Int) (n_10 : Int) (n_19 : Int) (clauses_21 : List Raw) (watch_26 : List (Int × Raw)) (value_31 : LI) (level_36 : LI) (reason_41 : LI) (trail_46 : LI) (starts_51 : LI) (head_56 : Int) (heat_58 : List Unit) (proof_66 : List (Bool × LI)) (dead_71 : Bool) (A_76 : Arena) (Q : LI → Prop) : Prop :=
 VLoop (σ := LI × Int) (data_1, 0) fun (data_159, i_162) xnext_248 =>
 (i_162 < n_10 →
 I64 (a_6 + i_162) ∧
 I64 (b_8 + i_162) ∧
 I64 (b_8 + i_162) ∧
 In (b_8 + i_162) data_159 ∧
 (I64 (ix data_159 (b_8 + i_162)) →
 I64 (a_6 + i_162) ∧
 In (a_6 + i_162) data_159 ∧
 (I64 (ix data_159 (a_6 + i_162)) →
 In (a_6 + i_162) data_159 ∧
 In (b_8 + i_162) (data_159.set (a_6 + i_162).toNat (ix data_159 (b_8 + i_162))) ∧
 I64 (i_162 + 1) ∧
 xnext_248 (((data_159.set (a_6 + i_162).toNat (ix data_159 (b_8 + i_162))).set (b_8 + i_162).toNat (ix data_159 (a_6 + i_162))), (i_162 + 1))))) ∧
 (¬ (i_162 < n_10) →
 Q data_159)

/-- slices.rotateCmpFunc[int]: what is to be shown. -/
def V_rotSF (data_1 : LI) (a_6 : Int) (m_8 : Int) (b_10 : Int) (n_19 : Int) (clauses_21 : List Raw) (watch_26 : List (Int × Raw)) (value_31 : LI) (level_36 : LI) (reason_41 : LI) (trail_46 : LI) (starts_51 : LI) (head_56 : Int) (heat_58 : List Unit) (proof_66 : List (Bool × LI)) (dead_71 : Bool) (A_76 : Arena) (Q : LI → Prop) : Prop :=
 I64 (m_8 - a_6) ∧
 I64 (b_10 - m_8) ∧
 VLoop (σ := LI × Int × Int) (data_1, (m_8 - a_6), (b_10 - m_8)) fun (data_105, i_108, j_110) xnext_138 =>
 (i_108 ≠ j_110 →
 (j_110 < i_108 →
 I64 (m_8 - i_108) ∧
 V_swapSF data_105 (m_8 - i_108) m_8 j_110 n_19 clauses_21 watch_26 value_31 level_36 reason_41 trail_46 starts_51 head_56 heat_58 proof_66 dead_71 A_76 fun c_143 =>
 I64 (i_108 - j_110) ∧
 xnext_138 (c_143, (i_108 - j_110), j_110)) ∧
 (¬ (j_110 < i_108) →
 I64 (m_8 - i_108) ∧
 I64 (m_8 + j_110) ∧
 I64 ((m_8 + j_110) - i_108) ∧
 V_swapSF data_105 (m_8 - i_108) ((m_8 + j_110) - i_108) i_108 n_19 clauses_21 watch_26 value_31 level_36 reason_41 trail_46 starts_51 head_56 heat_58 proof_66 dead_71 A_76 fun c_155 =>
 I64 (j_110 - i_108) ∧
 xnext_138 (c_155, i_108, (j_110 - i_108)))) ∧
 (¬ (i_108 ≠ j_110) →
 I64 (m_8 - i_108) ∧
 V_swapSF data_105 (m_8 - i_108) m_8 i_108 n_19 clauses_21 watch_26 value_31 level_36 reason_41 trail_46 starts_51 head_56 heat_58 proof_66 dead_71 A_76 fun c_164 =>
 Q c_164)

/-- slices.symMergeCmpFunc[int]: what is to be shown, so many calls deep. -/
def V_symSF : Nat → LI → Int → Int → Int → Int → (List Raw) → (List (Int × Raw)) → LI → LI → LI → LI → LI → Int → (List Unit) → (List (Bool × LI)) → Bool → Arena → (LI → Prop) → Prop
 | 0, _, _, _, _, _, _, _, _, _, _, _, _, _, _, _, _, _, _ => False
 | m0 + 1, data_1, a_6, m_8, b_10, n_19, clauses_21, watch_26, value_31, level_36, reason_41, trail_46, starts_51, head_56, heat_58, proof_66, dead_71, A_76, Q =>
 I64 (m_8 - a_6) ∧
 ((m_8 - a_6) = 1 →
 VLoop (σ := Int × Int) (m_8, b_10) fun (i_107, j_109) xnext_140 =>
 (i_107 < j_109 →
 I64 (i_107 + j_109) ∧
 In (IntKind.i64.wrap ((IntKind.u64.wrap (i_107 + j_109)) / 2)) data_1 ∧
 (I64 (ix data_1 (IntKind.i64.wrap ((IntKind.u64.wrap (i_107 + j_109)) / 2))) →
 In a_6 data_1 ∧
 (I64 (ix data_1 a_6) →
 ∃ (r_160 : Int), V_add1 (ix data_1 (IntKind.i64.wrap ((IntKind.u64.wrap (i_107 + j_109)) / 2))) (ix data_1 a_6) n_19 clauses_21 watch_26 value_31 level_36 reason_41 trail_46 starts_51 head_56 heat_58 proof_66 dead_71 A_76 (fun y0 => y0 = r_160) ∧ I64 r_160 ∧
 (r_160 < 0 →
 I64 ((IntKind.i64.wrap ((IntKind.u64.wrap (i_107 + j_109)) / 2)) + 1) ∧
 xnext_140 (((IntKind.i64.wrap ((IntKind.u64.wrap (i_107 + j_109)) / 2)) + 1), j_109)) ∧
 (¬ (r_160 < 0) →
 xnext_140 (i_107, (IntKind.i64.wrap ((IntKind.u64.wrap (i_107 + j_109)) / 2))))))) ∧
 (¬ (i_107 < j_109) →
 VLoop (σ := LI × Int) (data_1, a_6) fun (data_235, k_238) xnext_310 =>
 I64 (i_107 - 1) ∧
 (k_238 < (i_107 - 1) →
 I64 (k_238 + 1) ∧
 I64 (k_238 + 1) ∧
 In (k_238 + 1) data_235 ∧
 (I64 (ix data_235 (k_238 + 1)) →
 In k_238 data_235 ∧
 (I64 (ix data_235 k_238) →
 In k_238 data_235 ∧
 In (k_238 + 1) (data_235.set k_238.toNat (ix data_235 (k_238 + 1))) ∧
 I64 (k_238 + 1) ∧
 xnext_310 (((data_235.set k_238.toNat (ix data_235 (k_238 + 1))).set (k_238 + 1).toNat (ix data_235 k_238)), (k_238 + 1))))) ∧
 (¬ (k_238 < (i_107 - 1)) →
 Q data_235))) ∧
 (¬ ((m_8 - a_6) = 1) →
 I64 (b_10 - m_8) ∧
 ((b_10 - m_8) = 1 →
 VLoop (σ := Int × Int) (a_6, m_8) fun (i_412, j_414) xnext_445 =>
 (i_412 < j_414 →
 I64 (i_412 + j_414) ∧
 In m_8 data_1 ∧
 (I64 (ix data_1 m_8) →
 In (IntKind.i64.wrap ((IntKind.u64.wrap (i_412 + j_414)) / 2)) data_1 ∧
 (I64 (ix data_1 (IntKind.i64.wrap ((IntKind.u64.wrap (i_412 + j_414)) / 2))) →
 ∃ (r_465 : Int), V_add1 (ix data_1 m_8) (ix data_1 (IntKind.i64.wrap ((IntKind.u64.wrap (i_412 + j_414)) / 2))) n_19 clauses_21 watch_26 value_31 level_36 reason_41 trail_46 starts_51 head_56 heat_58 proof_66 dead_71 A_76 (fun y0 => y0 = r_465) ∧ I64 r_465 ∧
 (¬ (r_465 < 0) →
 I64 ((IntKind.i64.wrap ((IntKind.u64.wrap (i_412 + j_414)) / 2)) + 1) ∧
 xnext_445 (((IntKind.i64.wrap ((IntKind.u64.wrap (i_412 + j_414)) / 2)) + 1), j_414)) ∧
 (r_465 < 0 →
 xnext_445 (i_412, (IntKind.i64.wrap ((IntKind.u64.wrap (i_412 + j_414)) / 2))))))) ∧
 (¬ (i_412 < j_414) →
 VLoop (σ := LI × Int) (data_1, m_8) fun (data_538, k_541) xnext_611 =>
 (i_412 < k_541 →
 I64 (k_541 - 1) ∧
 I64 (k_541 - 1) ∧
 In (k_541 - 1) data_538 ∧
 (I64 (ix data_538 (k_541 - 1)) →
 In k_541 data_538 ∧
 (I64 (ix data_538 k_541) →
 In k_541 data_538 ∧
 In (k_541 - 1) (data_538.set k_541.toNat (ix data_538 (k_541 - 1))) ∧
 I64 (k_541 - 1) ∧
 xnext_611 (((data_538.set k_541.toNat (ix data_538 (k_541 - 1))).set (k_541 - 1).toNat (ix data_538 k_541)), (k_541 - 1))))) ∧
 (¬ (i_412 < k_541) →
 Q data_538))) ∧
 (¬ ((b_10 - m_8) = 1) →
 I64 (a_6 + b_10) ∧
 I64 ((IntKind.i64.wrap ((IntKind.u64.wrap (a_6 + b_10)) / 2)) + m_8) ∧
 VMeet (σ := Int × Int) (fun (start_689, r_691) =>
 I64 (((IntKind.i64.wrap ((IntKind.u64.wrap (a_6 + b_10)) / 2)) + m_8) - 1) ∧
 VLoop (σ := Int × Int) (start_689, r_691) fun (start_730, r_732) xnext_765 =>
 (start_730 < r_732 →
 I64 (start_730 + r_732) ∧
 I64 ((((IntKind.i64.wrap ((IntKind.u64.wrap (a_6 + b_10)) / 2)) + m_8) - 1) - (IntKind.i64.wrap ((IntKind.u64.wrap (start_730 + r_732)) / 2))) ∧
 In ((((IntKind.i64.wrap ((IntKind.u64.wrap (a_6 + b_10)) / 2)) + m_8) - 1) - (IntKind.i64.wrap ((IntKind.u64.wrap (start_730 + r_732)) / 2))) data_1 ∧
 (I64 (ix data_1 ((((IntKind.i64.wrap ((IntKind.u64.wrap (a_6 + b_10)) / 2)) + m_8) - 1) - (IntKind.i64.wrap ((IntKind.u64.wrap (start_730 + r_732)) / 2)))) →
 In (IntKind.i64.wrap ((IntKind.u64.wrap (start_730 + r_732)) / 2)) data_1 ∧
 (I64 (ix data_1 (IntKind.i64.wrap ((IntKind.u64.wrap (start_730 + r_732)) / 2))) →
 ∃ (r_787 : Int), V_add1 (ix data_1 ((((IntKind.i64.wrap ((IntKind.u64.wrap (a_6 + b_10)) / 2)) + m_8) - 1) - (IntKind.i64.wrap ((IntKind.u64.wrap (start_730 + r_732)) / 2)))) (ix data_1 (IntKind.i64.wrap ((IntKind.u64.wrap (start_730 + r_732)) / 2))) n_19 clauses_21 watch_26 value_31 level_36 reason_41 trail_46 starts_51 head_56 heat_58 proof_66 dead_71 A_76 (fun y0 => y0 = r_787) ∧ I64 r_787 ∧
 (¬ (r_787 < 0) →
 I64 ((IntKind.i64.wrap ((IntKind.u64.wrap (start_730 + r_732)) / 2)) + 1) ∧
 xnext_765 (((IntKind.i64.wrap ((IntKind.u64.wrap (start_730 + r_732)) / 2)) + 1), r_732)) ∧
 (r_787 < 0 →
 xnext_765 (start_730, (IntKind.i64.wrap ((IntKind.u64.wrap (start_730 + r_732)) / 2))))))) ∧
 (¬ (start_730 < r_732) →
 I64 (((IntKind.i64.wrap ((IntKind.u64.wrap (a_6 + b_10)) / 2)) + m_8) - start_730) ∧
 VMeet (σ := LI) (fun data_806 =>
 VMeet (σ := LI) (fun data_831 =>
 (((IntKind.i64.wrap ((IntKind.u64.wrap (a_6 + b_10)) / 2)) < (((IntKind.i64.wrap ((IntKind.u64.wrap (a_6 + b_10)) / 2)) + m_8) - start_730)) ∧ ((((IntKind.i64.wrap ((IntKind.u64.wrap (a_6 + b_10)) / 2)) + m_8) - start_730) < b_10) →
 V_symSF m0 data_831 (IntKind.i64.wrap ((IntKind.u64.wrap (a_6 + b_10)) / 2)) (((IntKind.i64.wrap ((IntKind.u64.wrap (a_6 + b_10)) / 2)) + m_8) - start_730) b_10 n_19 clauses_21 watch_26 value_31 level_36 reason_41 trail_46 starts_51 head_56 heat_58 proof_66 dead_71 A_76 fun c_851 =>
 Q c_851) ∧
 (¬ (((IntKind.i64.wrap ((IntKind.u64.wrap (a_6 + b_10)) / 2)) < (((IntKind.i64.wrap ((IntKind.u64.wrap (a_6 + b_10)) / 2)) + m_8) - start_730)) ∧ ((((IntKind.i64.wrap ((IntKind.u64.wrap (a_6 + b_10)) / 2)) + m_8) - start_730) < b_10)) →
 Q data_831)) fun J_834 =>
 ((a_6 < start_730) ∧ (start_730 < (IntKind.i64.wrap ((IntKind.u64.wrap (a_6 + b_10)) / 2))) →
 V_symSF m0 data_806 a_6 start_730 (IntKind.i64.wrap ((IntKind.u64.wrap (a_6 + b_10)) / 2)) n_19 clauses_21 watch_26 value_31 level_36 reason_41 trail_46 starts_51 head_56 heat_58 proof_66 dead_71 A_76 fun c_841 =>
 J_834 c_841) ∧
 (¬ ((a_6 < start_730) ∧ (start_730 < (IntKind.i64.wrap ((IntKind.u64.wrap (a_6 + b_10)) / 2)))) →
 J_834 data_806)) fun J_809 =>
 ((start_730 < m_8) ∧ (m_8 < (((IntKind.i64.wrap ((IntKind.u64.wrap (a_6 + b_10)) / 2)) + m_8) - start_730)) →
 V_rotSF data_1 start_730 m_8 (((IntKind.i64.wrap ((IntKind.u64.wrap (a_6 + b_10)) / 2)) + m_8) - start_730) n_19 clauses_21 watch_26 value_31 level_36 reason_41 trail_46 starts_51 head_56 heat_58 proof_66 dead_71 A_76 fun c_816 =>
 J_809 c_816) ∧
 (¬ ((start_730 < m_8) ∧ (m_8 < (((IntKind.i64.wrap ((IntKind.u64.wrap (a_6 + b_10)) / 2)) + m_8) - start_730))) →
 J_809 data_1))) fun J_693 =>
 ((IntKind.i64.wrap ((IntKind.u64.wrap (a_6 + b_10)) / 2)) < m_8 →
 I64 (((IntKind.i64.wrap ((IntKind.u64.wrap (a_6 + b_10)) / 2)) + m_8) - b_10) ∧
 J_693 ((((IntKind.i64.wrap ((IntKind.u64.wrap (a_6 + b_10)) / 2)) + m_8) - b_10), (IntKind.i64.wrap ((IntKind.u64.wrap (a_6 + b_10)) / 2)))) ∧
 (¬ ((IntKind.i64.wrap ((IntKind.u64.wrap (a_6 + b_10)) / 2)) < m_8) →
 J_693 (a_6, m_8))))

/-- slices.stableCmpFunc[int]: what is to be shown. -/
def V_stabSF (data_1 : LI) (n_6 : Int) (n_15 : Int) (clauses_17 : List Raw) (watch_22 : List (Int × Raw)) (value_27 : LI) (level_32 : LI) (reason_37 : LI) (trail_42 : LI) (starts_47 : LI) (head_52 : Int) (heat_54 : List Unit) (proof_62 : List (Bool × LI)) (dead_67 : Bool) (A_72 : Arena) (Q : LI → Prop) : Prop :=
 VLoop (σ := LI × Int × Int) (data_1, 0, 20) fun (data_81, a_84, b_86) xnext_98 =>
 (b_86 ≤ n_6 →
 V_insSF data_81 a_84 b_86 n_15 clauses_17 watch_22 value_27 level_32 reason_37 trail_42 starts_47 head_52 heat_54 proof_62 dead_67 A_72 fun c_100 =>
 I64 (b_86 + 20) ∧
 xnext_98 (c_100, b_86, (b_86 + 20))) ∧
 (¬ (b_86 ≤ n_6) →
 V_insSF data_81 a_84 n_6 n_15 clauses_17 watch_22 value_27 level_32 reason_37 trail_42 starts_47 head_52 heat_54 proof_62 dead_67 A_72 fun c_106 =>
 VLoop (σ := LI × Int) (c_106, 20) fun (data_184, blockSize_187) xnext_265 =>
 (blockSize_187 < n_6 →
 I64 (2 * blockSize_187) ∧
 VLoop (σ := LI × Int × Int) (data_184, 0, (2 * blockSize_187)) fun (data_281, a_284, b_286) xnext_302 =>
 (b_286 ≤ n_6 →
 I64 (a_284 + blockSize_187) ∧
 ∃ mf, V_symSF mf data_281 a_284 (a_284 + blockSize_187) b_286 n_15 clauses_17 watch_22 value_27 level_32 reason_37 trail_42 starts_47 head_52 heat_54 proof_62 dead_67 A_72 fun c_306 =>
 I64 (2 * blockSize_187) ∧
 I64 (b_286 + (2 * blockSize_187)) ∧
 xnext_302 (c_306, b_286, (b_286 + (2 * blockSize_187)))) ∧
 (¬ (b_286 ≤ n_6) →
 VMeet (σ := LI) (fun data_322 =>
 I64 (blockSize_187 * 2) ∧
 xnext_265 (data_322, (blockSize_187 * 2))) fun J_325 =>
 I64 (a_284 + blockSize_187) ∧
 ((a_284 + blockSize_187) < n_6 →
 ∃ mf, V_symSF mf data_281 a_284 (a_284 + blockSize_187) n_6 n_15 clauses_17 watch_22 value_27 level_32 reason_37 trail_42 starts_47 head_52 heat_54 proof_62 dead_67 A_72 fun c_330 =>
 J_325 c_330) ∧
 (¬ ((a_284 + blockSize_187) < n_6) →
 J_325 data_281))) ∧
 (¬ (blockSize_187 < n_6) →
 Q data_184))

/-- slices.SortStableFunc[[]int,int]: what is to be shown. -/
def V_SortSF (x_1 : LI) (n_13 : Int) (clauses_15 : List Raw) (watch_20 : List (Int × Raw)) (value_25 : LI) (level_30 : LI) (reason_35 : LI) (trail_40 : LI) (starts_45 : LI) (head_50 : Int) (heat_52 : List Unit) (proof_60 : List (Bool × LI)) (dead_65 : Bool) (A_70 : Arena) (Q : LI → Prop) : Prop :=
 (Len x_1 →
 V_stabSF x_1 (x_1.length : Int) n_13 clauses_15 watch_20 value_25 level_30 reason_35 trail_40 starts_45 head_50 heat_52 proof_60 dead_65 A_70 fun c_72 =>
 Q c_72)

/-- (*sat.solver).set: what is to be shown. -/
def V_set (n_4 : Int) (clauses_6 : List Raw) (watch_11 : List (Int × Raw)) (value_16 : LI) (level_21 : LI) (reason_26 : LI) (trail_31 : LI) (starts_36 : LI) (head_41 : Int) (heat_43 : List Unit) (proof_51 : List (Bool × LI)) (dead_56 : Bool) (A_61 : Arena) (l_62 : Int) (reason_64 : Int) (Q : LI → LI → LI → LI → Prop) : Prop :=
 I64 (-l_62) ∧
 In (max l_62 (-l_62)) value_16 ∧
 VMeet (σ := LI) (fun c_80 =>
 (Len starts_36 →
 In (max l_62 (-l_62)) level_21 ∧
 In (max l_62 (-l_62)) reason_26 ∧
 Room (trail_31.length + ([l_62]).length) 8 ∧
 Q c_80 (level_21.set (max l_62 (-l_62)).toNat (starts_36.length : Int)) (reason_26.set (max l_62 (-l_62)).toNat reason_64) (trail_31 ++ ([l_62])))) fun J_84 =>
 (l_62 < 0 →
 In (max l_62 (-l_62)) (value_16.set (max l_62 (-l_62)).toNat 1) ∧
 J_84 ((value_16.set (max l_62 (-l_62)).toNat 1).set (max l_62 (-l_62)).toNat (-1))) ∧
 (¬ (l_62 < 0) →
 J_84 (value_16.set (max l_62 (-l_62)).toNat 1))

/-- (*sat.solver).move: what is to be shown. -/
def V_move (n_4 : Int) (clauses_6 : List Raw) (watch_11 : List (Int × Raw)) (value_16 : LI) (level_21 : LI) (reason_26 : LI) (trail_31 : LI) (starts_36 : LI) (head_41 : Int) (heat_43 : List Unit) (proof_51 : List (Bool × LI)) (dead_56 : Bool) (A_61 : Arena) (c_62 : Raw) (i_63 : Int) (l_65 : Int) (Q : Bool → (List (Int × Raw)) → Arena → Prop) : Prop :=
 InR c_62 0 ∧
 RdOk A_61 c_62 0 ∧
 V_of n_4 clauses_6 watch_11 value_16 level_21 reason_26 trail_31 starts_36 head_41 heat_43 proof_51 dead_56 A_61 (ag A_61 c_62 0) fun r_70 =>
 (0 < r_70 →
 Q false watch_11 A_61) ∧
 (¬ (0 < r_70) →
 VLoop (σ := Int) 2 fun k_180 xnext_290 =>
 I64 (c_62.n : Int) ∧
 (k_180 < (c_62.n : Int) →
 InR c_62 k_180 ∧
 RdOk A_61 c_62 k_180 ∧
 V_of n_4 clauses_6 watch_11 value_16 level_21 reason_26 trail_31 starts_36 head_41 heat_43 proof_51 dead_56 A_61 (ag A_61 c_62 k_180) fun r_296 =>
 (0 ≤ r_296 →
 InR c_62 k_180 ∧
 RdOk A_61 c_62 k_180 ∧
 InR c_62 1 ∧
 RdOk A_61 c_62 1 ∧
 InR c_62 1 ∧
 RdOk A_61 c_62 1 ∧
 InR c_62 k_180 ∧
 RdOk (aset A_61 c_62 1 (ag A_61 c_62 k_180)) c_62 k_180 ∧
 InR c_62 1 ∧
 RdOk (aset (aset A_61 c_62 1 (ag A_61 c_62 k_180)) c_62 k_180 (ag A_61 c_62 1)) c_62 1 ∧
 InR c_62 1 ∧
 RdOk (aset (aset A_61 c_62 1 (ag A_61 c_62 k_180)) c_62 k_180 (ag A_61 c_62 1)) c_62 1 ∧
 ApOk (aset (aset A_61 c_62 1 (ag A_61 c_62 k_180)) c_62 k_180 (ag A_61 c_62 1)) (mgetD watch_11 (ag (aset (aset A_61 c_62 1 (ag A_61 c_62 k_180)) c_62 k_180 (ag A_61 c_62 1)) c_62 1) rnil) ∧
 Room ((mgetD watch_11 (ag (aset (aset A_61 c_62 1 (ag A_61 c_62 k_180)) c_62 k_180 (ag A_61 c_62 1)) c_62 1) rnil).n + ([i_63]).length) 8 ∧
 (∀ (A_385 : Arena) (r_386 : Raw), ApR (aset (aset A_61 c_62 1 (ag A_61 c_62 k_180)) c_62 k_180 (ag A_61 c_62 1)) (mgetD watch_11 (ag (aset (aset A_61 c_62 1 (ag A_61 c_62 k_180)) c_62 k_180 (ag A_61 c_62 1)) c_62 1) rnil) ([i_63]) A_385 r_386 →
 (RdOk A_385 c_62 1 ∧ ag A_385 c_62 1 = ag (aset (aset A_61 c_62 1 (ag A_61 c_62 k_180)) c_62 k_180 (ag A_61 c_62 1)) c_62 1) ∧
 Q true (mset watch_11 (ag (aset (aset A_61 c_62 1 (ag A_61 c_62 k_180)) c_62 k_180 (ag A_61 c_62 1)) c_62 1) r_386) A_385)) ∧
 (¬ (0 ≤ r_296) →
 I64 (k_180 + 1) ∧
 xnext_290 (k_180 + 1))) ∧
 (¬ (k_180 < (c_62.n : Int)) →
 Q false watch_11 A_61))

/-- (*sat.solver).follow: what is to be shown. -/
def V_sfollow (n_4 : Int) (clauses_6 : List Raw) (watch_11 : List (Int × Raw)) (value_16 : LI) (level_21 : LI) (reason_26 : LI) (trail_31 : LI) (starts_36 : LI) (head_41 : Int) (heat_43 : List Unit) (proof_51 : List (Bool × LI)) (dead_56 : Bool) (A_61 : Arena) (Q : Int → (List (Int × Raw)) → LI → LI → LI → LI → Int → Arena → Prop) : Prop :=
 VLoop (σ := (List (Int × Raw)) × LI × LI × LI × LI × Int × Arena) (watch_11, value_16, level_21, reason_26, trail_31, head_41, A_61) fun (c_1324, c_1328, c_1333, c_1338, c_1343, c_1347, A_1349) xnext_2616 =>
 (Len c_1343 →
 (c_1347 < (c_1343.length : Int) →
 In c_1347 c_1343 ∧
 (I64 (ix c_1343 c_1347) →
 I64 (-(ix c_1343 c_1347)) ∧
 I64 (c_1347 + 1) ∧
 ((0 : Int) ≤ 0 ∧ 0 ≤ ((mgetD c_1324 (-(ix c_1343 c_1347)) rnil).cap : Int)) ∧
 I64 ((mgetD c_1324 (-(ix c_1343 c_1347)) rnil).n : Int) ∧
 VLoop (σ := (List (Int × Raw)) × LI × LI × LI × LI × Arena × Raw × Int) (c_1324, c_1328, c_1333, c_1338, c_1343, A_1349, (rhi (mgetD c_1324 (-(ix c_1343 c_1347)) rnil) 0), 0) fun (c_3037, c_3041, c_3046, c_3051, c_3056, A_3060, kept_3063, x_3064) xnext_3471 =>
 (x_3064 < ((mgetD c_1324 (-(ix c_1343 c_1347)) rnil).n : Int) →
 VMeet (σ := (List (Int × Raw)) × LI × LI × LI × LI × Arena × Raw) (fun (c_3658, c_3662, c_3667, c_3672, c_3677, A_3681, kept_3684) =>
 I64 (x_3064 + 1) ∧
 xnext_3471 (c_3658, c_3662, c_3667, c_3672, c_3677, A_3681, kept_3684, (x_3064 + 1))) fun J_3685 =>
 InR (mgetD c_1324 (-(ix c_1343 c_1347)) rnil) x_3064 ∧
 RdOk A_3060 (mgetD c_1324 (-(ix c_1343 c_1347)) rnil) x_3064 ∧
 In (ag A_3060 (mgetD c_1324 (-(ix c_1343 c_1347)) rnil) x_3064) clauses_6 ∧
 VMeet (σ := Arena) (fun A_3747 =>
 V_move n_4 clauses_6 c_3037 c_3041 c_3046 c_3051 c_3056 starts_36 (c_1347 + 1) heat_43 proof_51 dead_56 A_3747 (ix clauses_6 (ag A_3060 (mgetD c_1324 (-(ix c_1343 c_1347)) rnil) x_3064)) (ag A_3060 (mgetD c_1324 (-(ix c_1343 c_1347)) rnil) x_3064) (-(ix c_1343 c_1347)) fun r_3804 m_3805 A_3808 =>
 (r_3804 = true →
 J_3685 (m_3805, c_3041, c_3046, c_3051, c_3056, A_3808, kept_3063)) ∧
 (r_3804 = false →
 ApOk A_3808 kept_3063 ∧
 Room (kept_3063.n + ([(ag A_3060 (mgetD c_1324 (-(ix c_1343 c_1347)) rnil) x_3064)]).length) 8 ∧
 (∀ (A_3819 : Arena) (r_3820 : Raw), ApR A_3808 kept_3063 ([(ag A_3060 (mgetD c_1324 (-(ix c_1343 c_1347)) rnil) x_3064)]) A_3819 r_3820 →
 InR (ix clauses_6 (ag A_3060 (mgetD c_1324 (-(ix c_1343 c_1347)) rnil) x_3064)) 0 ∧
 RdOk A_3819 (ix clauses_6 (ag A_3060 (mgetD c_1324 (-(ix c_1343 c_1347)) rnil) x_3064)) 0 ∧
 V_of n_4 clauses_6 m_3805 c_3041 c_3046 c_3051 c_3056 starts_36 (c_1347 + 1) heat_43 proof_51 dead_56 A_3819 (ag A_3819 (ix clauses_6 (ag A_3060 (mgetD c_1324 (-(ix c_1343 c_1347)) rnil) x_3064)) 0) fun r_3827 =>
 (r_3827 = 0 →
 InR (ix clauses_6 (ag A_3060 (mgetD c_1324 (-(ix c_1343 c_1347)) rnil) x_3064)) 0 ∧
 RdOk A_3819 (ix clauses_6 (ag A_3060 (mgetD c_1324 (-(ix c_1343 c_1347)) rnil) x_3064)) 0 ∧
 V_set n_4 clauses_6 m_3805 c_3041 c_3046 c_3051 c_3056 starts_36 (c_1347 + 1) heat_43 proof_51 dead_56 A_3819 (ag A_3819 (ix clauses_6 (ag A_3060 (mgetD c_1324 (-(ix c_1343 c_1347)) rnil) x_3064)) 0) (ag A_3060 (mgetD c_1324 (-(ix c_1343 c_1347)) rnil) x_3064) fun c_3834 c_3838 c_3842 c_3846 =>
 J_3685 (m_3805, c_3834, c_3838, c_3842, c_3846, A_3819, r_3820)) ∧
 (¬ (r_3827 = 0) →
 (r_3827 = (-1) →
 I64 (x_3064 + 1) ∧
 ((0 : Int) ≤ (x_3064 + 1) ∧ (x_3064 + 1) ≤ ((mgetD c_1324 (-(ix c_1343 c_1347)) rnil).n : Int)) ∧
 SrcOk A_3819 (rlo (mgetD c_1324 (-(ix c_1343 c_1347)) rnil) (x_3064 + 1)) ∧
 ApOk A_3819 r_3820 ∧
 Room (r_3820.n + (aread A_3819 (rlo (mgetD c_1324 (-(ix c_1343 c_1347)) rnil) (x_3064 + 1))).length) 8 ∧
 (∀ (A_3862 : Arena) (r_3863 : Raw), ApR A_3819 r_3820 (aread A_3819 (rlo (mgetD c_1324 (-(ix c_1343 c_1347)) rnil) (x_3064 + 1))) A_3862 r_3863 →
 Q (ag A_3060 (mgetD c_1324 (-(ix c_1343 c_1347)) rnil) x_3064) (mset m_3805 (-(ix c_1343 c_1347)) r_3863) c_3041 c_3046 c_3051 c_3056 (c_1347 + 1) A_3862)) ∧
 (¬ (r_3827 = (-1)) →
 J_3685 (m_3805, c_3041, c_3046, c_3051, c_3056, A_3819, r_3820)))))) fun J_3750 =>
 VMeet (σ := Bool) (fun x_3759 =>
 (x_3759 = true →
 InR (ix clauses_6 (ag A_3060 (mgetD c_1324 (-(ix c_1343 c_1347)) rnil) x_3064)) 1 ∧
 RdOk A_3060 (ix clauses_6 (ag A_3060 (mgetD c_1324 (-(ix c_1343 c_1347)) rnil) x_3064)) 1 ∧
 InR (ix clauses_6 (ag A_3060 (mgetD c_1324 (-(ix c_1343 c_1347)) rnil) x_3064)) 0 ∧
 RdOk A_3060 (ix clauses_6 (ag A_3060 (mgetD c_1324 (-(ix c_1343 c_1347)) rnil) x_3064)) 0 ∧
 InR (ix clauses_6 (ag A_3060 (mgetD c_1324 (-(ix c_1343 c_1347)) rnil) x_3064)) 0 ∧
 RdOk A_3060 (ix clauses_6 (ag A_3060 (mgetD c_1324 (-(ix c_1343 c_1347)) rnil) x_3064)) 0 ∧
 InR (ix clauses_6 (ag A_3060 (mgetD c_1324 (-(ix c_1343 c_1347)) rnil) x_3064)) 1 ∧
 RdOk (aset A_3060 (ix clauses_6 (ag A_3060 (mgetD c_1324 (-(ix c_1343 c_1347)) rnil) x_3064)) 0 (ag A_3060 (ix clauses_6 (ag A_3060 (mgetD c_1324 (-(ix c_1343 c_1347)) rnil) x_3064)) 1)) (ix clauses_6 (ag A_3060 (mgetD c_1324 (-(ix c_1343 c_1347)) rnil) x_3064)) 1 ∧
 J_3750 (aset (aset A_3060 (ix clauses_6 (ag A_3060 (mgetD c_1324 (-(ix c_1343 c_1347)) rnil) x_3064)) 0 (ag A_3060 (ix clauses_6 (ag A_3060 (mgetD c_1324 (-(ix c_1343 c_1347)) rnil) x_3064)) 1)) (ix clauses_6 (ag A_3060 (mgetD c_1324 (-(ix c_1343 c_1347)) rnil) x_3064)) 1 (ag A_3060 (ix clauses_6 (ag A_3060 (mgetD c_1324 (-(ix c_1343 c_1347)) rnil) x_3064)) 0))) ∧
 (x_3759 = false →
 J_3750 A_3060)) fun J_3760 =>
 I64 ((ix clauses_6 (ag A_3060 (mgetD c_1324 (-(ix c_1343 c_1347)) rnil) x_3064)).n : Int) ∧
 (1 < ((ix clauses_6 (ag A_3060 (mgetD c_1324 (-(ix c_1343 c_1347)) rnil) x_3064)).n : Int) →
 InR (ix clauses_6 (ag A_3060 (mgetD c_1324 (-(ix c_1343 c_1347)) rnil) x_3064)) 0 ∧
 RdOk A_3060 (ix clauses_6 (ag A_3060 (mgetD c_1324 (-(ix c_1343 c_1347)) rnil) x_3064)) 0 ∧
 J_3760 (decide ((ag A_3060 (ix clauses_6 (ag A_3060 (mgetD c_1324 (-(ix c_1343 c_1347)) rnil) x_3064)) 0) = (-(ix c_1343 c_1347))))) ∧
 (¬ (1 < ((ix clauses_6 (ag A_3060 (mgetD c_1324 (-(ix c_1343 c_1347)) rnil) x_3064)).n : Int)) →
 J_3760 false)) ∧
 (¬ (x_3064 < ((mgetD c_1324 (-(ix c_1343 c_1347)) rnil).n : Int)) →
 xnext_2616 ((mset c_3037 (-(ix c_1343 c_1347)) kept_3063), c_3041, c_3046, c_3051, c_3056, (c_1347 + 1), A_3060)))) ∧
 (¬ (c_1347 < (c_1343.length : Int)) →
 Q (-1) c_1324 c_1328 c_1333 c_1338 c_1343 c_1347 A_1349))

/-- (*sat.solver).keep: what is to be shown. -/
def V_keep (n_4 : Int) (clauses_6 : List Raw) (watch_11 : List (Int × Raw)) (value_16 : LI) (level_21 : LI) (reason_26 : LI) (trail_31 : LI) (starts_36 : LI) (head_41 : Int) (heat_43 : List Unit) (proof_51 : List (Bool × LI)) (dead_56 : Bool) (A_61 : Arena) (c_62 : Raw) (Q : (List Raw) → (List (Int × Raw)) → Arena → Prop) : Prop :=
 (Len clauses_6 →
 Room (clauses_6.length + ([c_62]).length) 24 ∧
 I64 (c_62.n : Int) ∧
 ((0 : Int) ≤ (min 2 (c_62.n : Int)) ∧ (min 2 (c_62.n : Int)) ≤ (c_62.cap : Int)) ∧
 I64 ((rhi c_62 (min 2 (c_62.n : Int))).n : Int) ∧
 VLoop (σ := (List (Int × Raw)) × Arena × Int) (watch_11, A_61, 0) fun (c_123, A_126, x_129) xnext_180 =>
 (x_129 < ((rhi c_62 (min 2 (c_62.n : Int))).n : Int) →
 InR (rhi c_62 (min 2 (c_62.n : Int))) x_129 ∧
 RdOk A_126 (rhi c_62 (min 2 (c_62.n : Int))) x_129 ∧
 ApOk A_126 (mgetD c_123 (ag A_126 (rhi c_62 (min 2 (c_62.n : Int))) x_129) rnil) ∧
 Room ((mgetD c_123 (ag A_126 (rhi c_62 (min 2 (c_62.n : Int))) x_129) rnil).n + ([(clauses_6.length : Int)]).length) 8 ∧
 (∀ (A_218 : Arena) (r_219 : Raw), ApR A_126 (mgetD c_123 (ag A_126 (rhi c_62 (min 2 (c_62.n : Int))) x_129) rnil) ([(clauses_6.length : Int)]) A_218 r_219 →
 I64 (x_129 + 1) ∧
 xnext_180 ((mset c_123 (ag A_126 (rhi c_62 (min 2 (c_62.n : Int))) x_129) r_219), A_218, (x_129 + 1)))) ∧
 (¬ (x_129 < ((rhi c_62 (min 2 (c_62.n : Int))).n : Int)) →
 Q (clauses_6 ++ ([c_62])) c_123 A_126))

/-- (*sat.solver).add: what is to be shown. -/
def V_add (n_4 : Int) (clauses_6 : List Raw) (watch_11 : List (Int × Raw)) (value_16 : LI) (level_21 : LI) (reason_26 : LI) (trail_31 : LI) (starts_36 : LI) (head_41 : Int) (heat_43 : List Unit) (proof_51 : List (Bool × LI)) (dead_56 : Bool) (A_61 : Arena) (c_62 : LI) (Q : (List Raw) → (List (Int × Raw)) → LI → LI → LI → LI → Int → Bool → Arena → Prop) : Prop :=
 V_tidy c_62 fun r_67 r_72 =>
 VMeet (σ := Bool) (fun x_75 =>
 (x_75 = true →
 Q clauses_6 watch_11 value_16 level_21 reason_26 trail_31 head_41 dead_56 A_61) ∧
 (x_75 = false →
 V_SortSF r_67 n_4 clauses_6 watch_11 value_16 level_21 reason_26 trail_31 starts_36 head_41 heat_43 proof_51 dead_56 A_61 fun c_79 =>
 VMeet (σ := Bool) (fun x_98 =>
 (x_98 = true →
 Q clauses_6 watch_11 value_16 level_21 reason_26 trail_31 head_41 true A_61) ∧
 (x_98 = false →
 ∀ (A_116 : Arena) (r_117 : Raw), AbR A_61 c_79 A_116 r_117 →
 V_keep n_4 clauses_6 watch_11 value_16 level_21 reason_26 trail_31 starts_36 head_41 heat_43 proof_51 dead_56 A_116 r_117 fun c_121 m_125 A_128 =>
 VMeet (σ := Bool) (fun x_143 =>
 (x_143 = true →
 VMeet (σ := LI × LI × LI × LI) (fun (c_212, c_217, c_222, c_227) =>
 V_sfollow n_4 c_121 m_125 c_212 c_217 c_222 c_227 starts_36 head_41 heat_43 proof_51 dead_56 A_128 fun r_288 m_290 c_293 c_297 c_301 c_305 c_309 A_311 =>
 (0 ≤ r_288 →
 Q c_121 m_290 c_293 c_297 c_301 c_305 c_309 true A_311) ∧
 (¬ (0 ≤ r_288) →
 Q c_121 m_290 c_293 c_297 c_301 c_305 c_309 dead_56 A_311)) fun J_231 =>
 InR r_117 0 ∧
 RdOk A_128 r_117 0 ∧
 ∃ (r_236 : Int), V_of n_4 c_121 m_125 value_16 level_21 reason_26 trail_31 starts_36 head_41 heat_43 proof_51 dead_56 A_128 (ag A_128 r_117 0) (fun y0 => y0 = r_236) ∧ I64 r_236 ∧
 (r_236 = 0 →
 InR r_117 0 ∧
 RdOk A_128 r_117 0 ∧
 (Len c_121 →
 I64 ((c_121.length : Int) - 1) ∧
 V_set n_4 c_121 m_125 value_16 level_21 reason_26 trail_31 starts_36 head_41 heat_43 proof_51 dead_56 A_128 (ag A_128 r_117 0) ((c_121.length : Int) - 1) fun c_266 c_270 c_274 c_278 =>
 J_231 (c_266, c_270, c_274, c_278))) ∧
 (¬ (r_236 = 0) →
 J_231 (value_16, level_21, reason_26, trail_31))) ∧
 (x_143 = false →
 Q c_121 m_125 value_16 level_21 reason_26 trail_31 head_41 dead_56 A_128)) fun J_144 =>
 I64 (r_117.n : Int) ∧
 ((r_117.n : Int) = 1 →
 J_144 true) ∧
 (¬ ((r_117.n : Int) = 1) →
 InR r_117 1 ∧
 RdOk A_128 r_117 1 ∧
 ∃ (r_152 : Int), V_of n_4 c_121 m_125 value_16 level_21 reason_26 trail_31 starts_36 head_41 heat_43 proof_51 dead_56 A_128 (ag A_128 r_117 1) (fun y0 => y0 = r_152) ∧ I64 r_152 ∧
 J_144 (decide (r_152 < 0))))) fun J_99 =>
 (Len c_79 →
 ((c_79.length : Int) = 0 →
 J_99 true) ∧
 (¬ ((c_79.length : Int) = 0) →
 In 0 c_79 ∧
 (I64 (ix c_79 0) →
 ∃ (r_112 : Int), V_of n_4 clauses_6 watch_11 value_16 level_21 reason_26 trail_31 starts_36 head_41 heat_43 proof_51 dead_56 A_61 (ix c_79 0) (fun y0 => y0 = r_112) ∧ I64 r_112 ∧
 J_99 (decide (r_112 < 0))))))) fun J_76 =>
 ((!r_72) = true →
 J_76 true) ∧
 ((!r_72) = false →
 J_76 dead_56)

/-- (*sat.solver).back: what is to be shown. -/
def V_back (n_4 : Int) (clauses_6 : List Raw) (watch_11 : List (Int × Raw)) (value_16 : LI) (level_21 : LI) (reason_26 : LI) (trail_31 : LI) (starts_36 : LI) (head_41 : Int) (heat_43 : List Unit) (proof_51 : List (Bool × LI)) (dead_56 : Bool) (A_61 : Arena) (level_62 : Int) (Q : LI → LI → LI → Int → Prop) : Prop :=
 (Len starts_36 →
 ((starts_36.length : Int) ≤ level_62 →
 Q value_16 trail_31 starts_36 head_41) ∧
 (¬ ((starts_36.length : Int) ≤ level_62) →
 In level_62 starts_36 ∧
 (I64 (ix starts_36 level_62) →
 In (ix starts_36 level_62) trail_31 ∧
 I64 ((trail_31.length : Int) - (ix starts_36 level_62)) ∧
 VLoop (σ := LI × Int) (value_16, 0) fun (c_97, x_101) xnext_123 =>
 (x_101 < ((trail_31.length : Int) - (ix starts_36 level_62)) →
 ((0 : Int) ≤ x_101 ∧ (0 : Int) ≤ ((ix starts_36 level_62) + x_101) ∧ ((ix starts_36 level_62) + x_101) < (trail_31.length : Int)) ∧
 (I64 (ix trail_31 ((ix starts_36 level_62) + x_101)) →
 I64 (-(ix trail_31 ((ix starts_36 level_62) + x_101))) ∧
 In (max (ix trail_31 ((ix starts_36 level_62) + x_101)) (-(ix trail_31 ((ix starts_36 level_62) + x_101)))) c_97 ∧
 I64 (x_101 + 1) ∧
 xnext_123 ((c_97.set (max (ix trail_31 ((ix starts_36 level_62) + x_101)) (-(ix trail_31 ((ix starts_36 level_62) + x_101)))).toNat 0), (x_101 + 1)))) ∧
 (¬ (x_101 < ((trail_31.length : Int) - (ix starts_36 level_62))) →
 In level_62 starts_36 ∧
 (I64 (ix starts_36 level_62) →
 ((0 : Int) ≤ (ix starts_36 level_62) ∧ (ix starts_36 level_62) ≤ (trail_31.length : Int)) ∧
 ((0 : Int) ≤ level_62 ∧ level_62 ≤ (starts_36.length : Int)) ∧
 (Len (trail_31.take (ix starts_36 level_62).toNat) →
 Q c_97 (trail_31.take (ix starts_36 level_62).toNat) (starts_36.take level_62.toNat) ((trail_31.take (ix starts_36 level_62).toNat).length : Int)))))))

/-- (*sat.solver).warm: what is to be shown. -/
def V_warm (n_4 : Int) (clauses_6 : List Raw) (watch_11 : List (Int × Raw)) (value_16 : LI) (level_21 : LI) (reason_26 : LI) (trail_31 : LI) (starts_36 : LI) (head_41 : Int) (heat_43 : List Unit) (proof_51 : List (Bool × LI)) (dead_56 : Bool) (A_61 : Arena) (v_62 : Int) (Q : (List Unit) → Prop) : Prop :=
 In v_62 heat_43 ∧
 In v_62 heat_43 ∧
 In v_62 (heat_43.set v_62.toNat ()) ∧
 (∀ b_109 : Bool,
 (b_109 = true →
 (Len (heat_43.set v_62.toNat ()) →
 VLoop (σ := (List Unit) × Int) ((heat_43.set v_62.toNat ()), 0) fun (c_128, x_132) xnext_152 =>
 (x_132 < ((heat_43.set v_62.toNat ()).length : Int) →
 In x_132 c_128 ∧
 In x_132 c_128 ∧
 I64 (x_132 + 1) ∧
 xnext_152 ((c_128.set x_132.toNat ()), (x_132 + 1))) ∧
 (¬ (x_132 < ((heat_43.set v_62.toNat ()).length : Int)) →
 Q c_128))) ∧
 (b_109 = false →
 Q (heat_43.set v_62.toNat ())))

/-- (*sat.solver).learn: what is to be shown. -/
def V_learn (n_4 : Int) (clauses_6 : List Raw) (watch_11 : List (Int × Raw)) (value_16 : LI) (level_21 : LI) (reason_26 : LI) (trail_31 : LI) (starts_36 : LI) (head_41 : Int) (heat_43 : List Unit) (proof_51 : List (Bool × LI)) (dead_56 : Bool) (A_61 : Arena) (conflict_62 : Int) (Q : LI → Int → (List Unit) → Prop) : Prop :=
 I64 (n_4 + 1) ∧
 Made (n_4 + 1) 1 ∧
 (Len trail_31 →
 In conflict_62 clauses_6 ∧
 VLoop (σ := (List Unit) × (List Bool) × LI × Int × Int × Raw × Int) (heat_43, (List.replicate (n_4 + 1).toNat false), [0], 0, (trail_31.length : Int), (ix clauses_6 conflict_62), 0) fun (c_785, seen_792, out_797, xopen_801, xat_803, c_805, p_806) xnext_1512 =>
 I64 (c_805.n : Int) ∧
 VLoop (σ := (List Unit) × (List Bool) × LI × Int × Int) (c_785, seen_792, out_797, xopen_801, 0) fun (c_1702, seen_1709, out_1714, xopen_1718, x_1720) xnext_1911 =>
 (x_1720 < (c_805.n : Int) →
 VMeet (σ := (List Unit) × (List Bool) × LI × Int) (fun (c_1995, seen_2002, out_2007, xopen_2011) =>
 I64 (x_1720 + 1) ∧
 xnext_1911 (c_1995, seen_2002, out_2007, xopen_2011, (x_1720 + 1))) fun J_2013 =>
 InR c_805 x_1720 ∧
 RdOk A_61 c_805 x_1720 ∧
 I64 (-(ag A_61 c_805 x_1720)) ∧
 VMeet (σ := Bool) (fun x_2038 =>
 (x_2038 = true →
 J_2013 (c_1702, seen_1709, out_1714, xopen_1718)) ∧
 (x_2038 = false →
 In (max (ag A_61 c_805 x_1720) (-(ag A_61 c_805 x_1720))) seen_1709 ∧
 V_warm n_4 clauses_6 watch_11 value_16 level_21 reason_26 trail_31 starts_36 head_41 c_1702 proof_51 dead_56 A_61 (max (ag A_61 c_805 x_1720) (-(ag A_61 c_805 x_1720))) fun c_2065 =>
 In (max (ag A_61 c_805 x_1720) (-(ag A_61 c_805 x_1720))) level_21 ∧
 (I64 (ix level_21 (max (ag A_61 c_805 x_1720) (-(ag A_61 c_805 x_1720)))) →
 (Len starts_36 →
 ((ix level_21 (max (ag A_61 c_805 x_1720) (-(ag A_61 c_805 x_1720)))) = (starts_36.length : Int) →
 I64 (xopen_1718 + 1) ∧
 J_2013 (c_2065, (seen_1709.set (max (ag A_61 c_805 x_1720) (-(ag A_61 c_805 x_1720))).toNat true), out_1714, (xopen_1718 + 1))) ∧
 (¬ ((ix level_21 (max (ag A_61 c_805 x_1720) (-(ag A_61 c_805 x_1720)))) = (starts_36.length : Int)) →
 Room (out_1714.length + ([(ag A_61 c_805 x_1720)]).length) 8 ∧
 J_2013 (c_2065, (seen_1709.set (max (ag A_61 c_805 x_1720) (-(ag A_61 c_805 x_1720))).toNat true), (out_1714 ++ ([(ag A_61 c_805 x_1720)])), xopen_1718)))))) fun J_2039 =>
 ((ag A_61 c_805 x_1720) = p_806 →
 J_2039 true) ∧
 (¬ ((ag A_61 c_805 x_1720) = p_806) →
 In (max (ag A_61 c_805 x_1720) (-(ag A_61 c_805 x_1720))) seen_1709 ∧
 ((ix seen_1709 (max (ag A_61 c_805 x_1720) (-(ag A_61 c_805 x_1720)))) = true →
 J_2039 true) ∧
 ((ix seen_1709 (max (ag A_61 c_805 x_1720) (-(ag A_61 c_805 x_1720)))) = false →
 In (max (ag A_61 c_805 x_1720) (-(ag A_61 c_805 x_1720))) level_21 ∧
 (I64 (ix level_21 (max (ag A_61 c_805 x_1720) (-(ag A_61 c_805 x_1720)))) →
 J_2039 (decide ((ix level_21 (max (ag A_61 c_805 x_1720) (-(ag A_61 c_805 x_1720)))) = 0)))))) ∧
 (¬ (x_1720 < (c_805.n : Int)) →
 I64 (xat_803 - 1) ∧
 VLoop (σ := Int) (xat_803 - 1) fun xat_2127 xnext_2158 =>
 In xat_2127 trail_31 ∧
 (I64 (ix trail_31 xat_2127) →
 In xat_2127 trail_31 ∧
 (I64 (ix trail_31 xat_2127) →
 I64 (-(ix trail_31 xat_2127)) ∧
 In (max (ix trail_31 xat_2127) (-(ix trail_31 xat_2127))) seen_1709 ∧
 ((!(ix seen_1709 (max (ix trail_31 xat_2127) (-(ix trail_31 xat_2127))))) = true →
 I64 (xat_2127 - 1) ∧
 xnext_2158 (xat_2127 - 1)) ∧
 ((!(ix seen_1709 (max (ix trail_31 xat_2127) (-(ix trail_31 xat_2127))))) = false →
 In xat_2127 trail_31 ∧
 (I64 (ix trail_31 xat_2127) →
 I64 (xopen_1718 - 1) ∧
 ((xopen_1718 - 1) = 0 →
 I64 (-(ix trail_31 xat_2127)) ∧
 In 0 out_1714 ∧
 VLoop (σ := LI × Int × Int) ((out_1714.set (0 : Int).toNat (-(ix trail_31 xat_2127))), 0, 1) fun (out_2371, level_2375, k_2377) xnext_2549 =>
 (Len out_2371 →
 (k_2377 < (out_2371.length : Int) →
 VMeet (σ := LI × Int) (fun (out_2630, level_2634) =>
 I64 (k_2377 + 1) ∧
 xnext_2549 (out_2630, level_2634, (k_2377 + 1))) fun J_2636 =>
 In k_2377 out_2371 ∧
 (I64 (ix out_2371 k_2377) →
 In k_2377 out_2371 ∧
 (I64 (ix out_2371 k_2377) →
 I64 (-(ix out_2371 k_2377)) ∧
 In (max (ix out_2371 k_2377) (-(ix out_2371 k_2377))) level_21 ∧
 (I64 (ix level_21 (max (ix out_2371 k_2377) (-(ix out_2371 k_2377)))) →
 (level_2375 < (ix level_21 (max (ix out_2371 k_2377) (-(ix out_2371 k_2377)))) →
 In k_2377 out_2371 ∧
 (I64 (ix out_2371 k_2377) →
 In 1 out_2371 ∧
 (I64 (ix out_2371 1) →
 In 1 out_2371 ∧
 In k_2377 (out_2371.set (1 : Int).toNat (ix out_2371 k_2377)) ∧
 J_2636 (((out_2371.set (1 : Int).toNat (ix out_2371 k_2377)).set k_2377.toNat (ix out_2371 1)), (ix level_21 (max (ix out_2371 k_2377) (-(ix out_2371 k_2377)))))))) ∧
 (¬ (level_2375 < (ix level_21 (max (ix out_2371 k_2377) (-(ix out_2371 k_2377))))) →
 J_2636 (out_2371, level_2375)))))) ∧
 (¬ (k_2377 < (out_2371.length : Int)) →
 Q out_2371 level_2375 c_1702))) ∧
 (¬ ((xopen_1718 - 1) = 0) →
 I64 (-(ix trail_31 xat_2127)) ∧
 In (max (ix trail_31 xat_2127) (-(ix trail_31 xat_2127))) reason_26 ∧
 (I64 (ix reason_26 (max (ix trail_31 xat_2127) (-(ix trail_31 xat_2127)))) →
 In (ix reason_26 (max (ix trail_31 xat_2127) (-(ix trail_31 xat_2127)))) clauses_6 ∧
 xnext_1512 (c_1702, seen_1709, out_1714, (xopen_1718 - 1), xat_2127, (ix clauses_6 (ix reason_26 (max (ix trail_31 xat_2127) (-(ix trail_31 xat_2127))))), (ix trail_31 xat_2127))))))))))

/-- (*sat.solver).pick: what is to be shown. -/
def V_pick (n_4 : Int) (clauses_6 : List Raw) (watch_11 : List (Int × Raw)) (value_16 : LI) (level_21 : LI) (reason_26 : LI) (trail_31 : LI) (starts_36 : LI) (head_41 : Int) (heat_43 : List Unit) (proof_51 : List (Bool × LI)) (dead_56 : Bool) (A_61 : Arena) (Q : Int → Prop) : Prop :=
 VLoop (σ := Int × Int) (0, 1) fun (best_178, v_180) xnext_300 =>
 (v_180 ≤ n_4 →
 VMeet (σ := Int) (fun best_356 =>
 I64 (v_180 + 1) ∧
 xnext_300 (best_356, (v_180 + 1))) fun J_358 =>
 VMeet (σ := Bool) (fun x_385 =>
 (x_385 = true →
 J_358 v_180) ∧
 (x_385 = false →
 J_358 best_178)) fun J_386 =>
 In v_180 value_16 ∧
 (I64 (ix value_16 v_180) →
 ((ix value_16 v_180) = 0 →
 (best_178 = 0 →
 J_386 true) ∧
 (¬ (best_178 = 0) →
 In v_180 heat_43 ∧
 In best_178 heat_43 ∧
 (∀ b_412 : Bool,
 J_386 b_412))) ∧
 (¬ ((ix value_16 v_180) = 0) →
 J_386 false))) ∧
 (¬ (v_180 ≤ n_4) →
 Q best_178)

/-- (*sat.solver).core: what is to be shown. -/
def V_core (n_4 : Int) (clauses_6 : List Raw) (watch_11 : List (Int × Raw)) (value_16 : LI) (level_21 : LI) (reason_26 : LI) (trail_31 : LI) (starts_36 : LI) (head_41 : Int) (heat_43 : List Unit) (proof_51 : List (Bool × LI)) (dead_56 : Bool) (A_61 : Arena) (l_62 : Int) (suppose_64 : LI) (Q : LI → Prop) : Prop :=
 I64 (-l_62) ∧
 VBack (σ := M1 × LI) trail_31 ((mset ([] : M1) (max l_62 (-l_62)) 1), [l_62]) (fun (c_196, c_200) x_318 xnext_313 =>
 I64 (-x_318) ∧
 VMeet (σ := Bool) (fun x_335 =>
 (x_335 = true →
 xnext_313 (c_196, c_200)) ∧
 (x_335 = false →
 In (max x_318 (-x_318)) reason_26 ∧
 (I64 (ix reason_26 (max x_318 (-x_318))) →
 ((ix reason_26 (max x_318 (-x_318))) < 0 →
 Room (c_200.length + ([x_318]).length) 8 ∧
 xnext_313 (c_196, (c_200 ++ ([x_318])))) ∧
 (¬ ((ix reason_26 (max x_318 (-x_318))) < 0) →
 In (max x_318 (-x_318)) reason_26 ∧
 (I64 (ix reason_26 (max x_318 (-x_318))) →
 In (ix reason_26 (max x_318 (-x_318))) clauses_6 ∧
 I64 ((ix clauses_6 (ix reason_26 (max x_318 (-x_318)))).n : Int) ∧
 VLoop (σ := M1 × Int) (c_196, 0) fun (c_394, x_397) xnext_411 =>
 (x_397 < ((ix clauses_6 (ix reason_26 (max x_318 (-x_318)))).n : Int) →
 InR (ix clauses_6 (ix reason_26 (max x_318 (-x_318)))) x_397 ∧
 RdOk A_61 (ix clauses_6 (ix reason_26 (max x_318 (-x_318)))) x_397 ∧
 I64 (-(ag A_61 (ix clauses_6 (ix reason_26 (max x_318 (-x_318)))) x_397)) ∧
 I64 (x_397 + 1) ∧
 xnext_411 ((mset c_394 (max (ag A_61 (ix clauses_6 (ix reason_26 (max x_318 (-x_318)))) x_397) (-(ag A_61 (ix clauses_6 (ix reason_26 (max x_318 (-x_318)))) x_397))) 1), (x_397 + 1))) ∧
 (¬ (x_397 < ((ix clauses_6 (ix reason_26 (max x_318 (-x_318)))).n : Int)) →
 xnext_313 (c_394, c_200))))))) fun J_336 =>
 (I64 (mgetD c_196 (max x_318 (-x_318)) 0) →
 ((mgetD c_196 (max x_318 (-x_318)) 0) = 0 →
 J_336 true) ∧
 (¬ ((mgetD c_196 (max x_318 (-x_318)) 0) = 0) →
 In (max x_318 (-x_318)) level_21 ∧
 (I64 (ix level_21 (max x_318 (-x_318))) →
 J_336 (decide ((ix level_21 (max x_318 (-x_318))) = 0)))))) fun (c_196, c_200) =>
 (Len suppose_64 →
 VLoop (σ := LI × Int) (([] : LI), 0) fun (core_515, x_519) xnext_620 =>
 (x_519 < (suppose_64.length : Int) →
 VMeet (σ := LI) (fun core_666 =>
 I64 (x_519 + 1) ∧
 xnext_620 (core_666, (x_519 + 1))) fun J_670 =>
 In x_519 suppose_64 ∧
 (I64 (ix suppose_64 x_519) →
 VMeet (σ := Bool) (fun x_691 =>
 (x_691 = true →
 Room (core_515.length + ([(ix suppose_64 x_519)]).length) 8 ∧
 J_670 (core_515 ++ ([(ix suppose_64 x_519)]))) ∧
 (x_691 = false →
 J_670 core_515)) fun J_692 =>
 V_ContainsI c_200 (ix suppose_64 x_519) fun r_695 =>
 (r_695 = true →
 V_ContainsI core_515 (ix suppose_64 x_519) fun r_701 =>
 J_692 (!r_701)) ∧
 (r_695 = false →
 J_692 false))) ∧
 (¬ (x_519 < (suppose_64.length : Int)) →
 Q core_515))

/-- (*sat.solver).found: what is to be shown. -/
def V_found (n_4 : Int) (clauses_6 : List Raw) (watch_11 : List (Int × Raw)) (value_16 : LI) (level_21 : LI) (reason_26 : LI) (trail_31 : LI) (starts_36 : LI) (head_41 : Int) (heat_43 : List Unit) (proof_51 : List (Bool × LI)) (dead_56 : Bool) (A_61 : Arena) (Q : Bool → (List Bool) → LI → (List (Bool × LI)) → Prop) : Prop :=
 VLoop (σ := (List Bool) × Int) (([] : List Bool), 1) fun (c_120, v_124) xnext_172 =>
 (v_124 ≤ n_4 →
 In v_124 value_16 ∧
 (I64 (ix value_16 v_124) →
 Room (c_120.length + ([decide (0 < (ix value_16 v_124))]).length) 1 ∧
 I64 (v_124 + 1) ∧
 xnext_172 ((c_120 ++ ([decide (0 < (ix value_16 v_124))])), (v_124 + 1)))) ∧
 (¬ (v_124 ≤ n_4) →
 Q true c_120 ([] : LI) ([] : List (Bool × LI)))

/-- (*sat.solver).run: what is to be shown. -/
def V_run (n_4 : Int) (clauses_6 : List Raw) (watch_11 : List (Int × Raw)) (value_16 : LI) (level_21 : LI) (reason_26 : LI) (trail_31 : LI) (starts_36 : LI) (head_41 : Int) (heat_43 : List Unit) (proof_51 : List (Bool × LI)) (dead_56 : Bool) (A_61 : Arena) (suppose_62 : LI) (Q : Bool → (List Bool) → LI → (List (Bool × LI)) → Prop) : Prop :=
 VMeet (σ := (List Raw) × (List (Int × Raw)) × LI × LI × LI × LI × LI × Int × (List Unit) × (List (Bool × LI)) × Arena) (fun (c_2671, c_2675, c_2679, c_2684, c_2689, c_2694, c_2699, c_2703, c_2706, c_2713, A_2717) =>
 Room (c_2713.length + ([(false, ([] : LI))]).length) 32 ∧
 Q false ([] : List Bool) ([] : LI) (c_2713 ++ ([(false, ([] : LI))]))) fun J_2720 =>
 VLoop (σ := (List Raw) × (List (Int × Raw)) × LI × LI × LI × LI × LI × Int × (List Unit) × (List (Bool × LI)) × Arena) (clauses_6, watch_11, value_16, level_21, reason_26, trail_31, starts_36, head_41, heat_43, proof_51, A_61) fun (c_3997, c_4001, c_4005, c_4010, c_4015, c_4020, c_4025, c_4029, c_4032, c_4039, A_4043) xnext_4683 =>
 ((!dead_56) = true →
 V_sfollow n_4 c_3997 c_4001 c_4005 c_4010 c_4015 c_4020 c_4025 c_4029 c_4032 c_4039 dead_56 A_4043 fun r_4684 m_4686 c_4689 c_4693 c_4697 c_4701 c_4705 A_4707 =>
 (0 ≤ r_4684 →
 (Len c_4025 →
 ((c_4025.length : Int) = 0 →
 J_2720 (c_3997, m_4686, c_4689, c_4693, c_4697, c_4701, c_4025, c_4705, c_4032, c_4039, A_4707)) ∧
 (¬ ((c_4025.length : Int) = 0) →
 V_learn n_4 c_3997 m_4686 c_4689 c_4693 c_4697 c_4701 c_4025 c_4705 c_4032 c_4039 dead_56 A_4707 r_4684 fun r_4718 r_4723 c_4725 =>
 V_CloneI r_4718 fun r_4746 =>
 Room (c_4039.length + ([(false, r_4746)]).length) 32 ∧
 V_back n_4 c_3997 m_4686 c_4689 c_4693 c_4697 c_4701 c_4025 c_4705 c_4725 (c_4039 ++ ([(false, r_4746)])) dead_56 A_4707 r_4723 fun c_4773 c_4777 c_4781 c_4785 =>
 ∀ (A_4791 : Arena) (r_4792 : Raw), AbR A_4707 r_4718 A_4791 r_4792 →
 V_keep n_4 c_3997 m_4686 c_4773 c_4693 c_4697 c_4777 c_4781 c_4785 c_4725 (c_4039 ++ ([(false, r_4746)])) dead_56 A_4791 r_4792 fun c_4796 m_4800 A_4803 =>
 InR r_4792 0 ∧
 RdOk A_4803 r_4792 0 ∧
 (Len c_4796 →
 I64 ((c_4796.length : Int) - 1) ∧
 V_set n_4 c_4796 m_4800 c_4773 c_4693 c_4697 c_4777 c_4781 c_4785 c_4725 (c_4039 ++ ([(false, r_4746)])) dead_56 A_4803 (ag A_4803 r_4792 0) ((c_4796.length : Int) - 1) fun c_4834 c_4838 c_4842 c_4846 =>
 xnext_4683 (c_4796, m_4800, c_4834, c_4838, c_4842, c_4846, c_4781, c_4785, c_4725, (c_4039 ++ ([(false, r_4746)])), A_4803))))) ∧
 (¬ (0 ≤ r_4684) →
 VMeet (σ := Int) (fun l_5036 =>
 VMeet (σ := Int) (fun l_5245 =>
 (Len c_4701 →
 Room (c_4025.length + ([(c_4701.length : Int)]).length) 8 ∧
 V_set n_4 c_3997 m_4686 c_4689 c_4693 c_4697 c_4701 (c_4025 ++ ([(c_4701.length : Int)])) c_4705 c_4032 c_4039 dead_56 A_4707 l_5245 (-1) fun c_5304 c_5308 c_5312 c_5316 =>
 xnext_4683 (c_3997, m_4686, c_5304, c_5308, c_5312, c_5316, (c_4025 ++ ([(c_4701.length : Int)])), c_4705, c_4032, c_4039, A_4707))) fun J_5247 =>
 (l_5036 = 0 →
 V_pick n_4 c_3997 m_4686 c_4689 c_4693 c_4697 c_4701 c_4025 c_4705 c_4032 c_4039 dead_56 A_4707 fun r_5250 =>
 (r_5250 = 0 →
 V_found n_4 c_3997 m_4686 c_4689 c_4693 c_4697 c_4701 c_4025 c_4705 c_4032 c_4039 dead_56 A_4707 fun r_5254 r_5255 r_5258 r_5261 =>
 Q r_5254 r_5255 r_5258 r_5261) ∧
 (¬ (r_5250 = 0) →
 I64 (-r_5250) ∧
 J_5247 (-r_5250))) ∧
 (¬ (l_5036 = 0) →
 J_5247 l_5036)) fun J_5038 =>
 (Len suppose_62 →
 VLoop (σ := Int) 0 fun x_5098 xnext_5159 =>
 (x_5098 < (suppose_62.length : Int) →
 In x_5098 suppose_62 ∧
 (I64 (ix suppose_62 x_5098) →
 V_of n_4 c_3997 m_4686 c_4689 c_4693 c_4697 c_4701 c_4025 c_4705 c_4032 c_4039 dead_56 A_4707 (ix suppose_62 x_5098) fun r_5169 =>
 (r_5169 < 0 →
 Room (c_4039.length + ([(false, ([] : LI))]).length) 32 ∧
 V_core n_4 c_3997 m_4686 c_4689 c_4693 c_4697 c_4701 c_4025 c_4705 c_4032 (c_4039 ++ ([(false, ([] : LI))])) dead_56 A_4707 (ix suppose_62 x_5098) suppose_62 fun r_5197 =>
 Q false ([] : List Bool) r_5197 (c_4039 ++ ([(false, ([] : LI))]))) ∧
 (¬ (r_5169 < 0) →
 V_of n_4 c_3997 m_4686 c_4689 c_4693 c_4697 c_4701 c_4025 c_4705 c_4032 c_4039 dead_56 A_4707 (ix suppose_62 x_5098) fun r_5215 =>
 (r_5215 = 0 →
 J_5038 (ix suppose_62 x_5098)) ∧
 (¬ (r_5215 = 0) →
 I64 (x_5098 + 1) ∧
 xnext_5159 (x_5098 + 1))))) ∧
 (¬ (x_5098 < (suppose_62.length : Int)) →
 J_5038 0)))) ∧
 ((!dead_56) = false →
 J_2720 (c_3997, c_4001, c_4005, c_4010, c_4015, c_4020, c_4025, c_4029, c_4032, c_4039, A_4043))

/-- sat.newSolver: what is to be shown. -/
def V_newSolver (n_1 : Int) (clauses_3 : List LI) (Q : Int → (List Raw) → (List (Int × Raw)) → LI → LI → LI → LI → LI → Int → (List Unit) → (List (Bool × LI)) → Bool → Arena → Prop) : Prop :=
 I64 (n_1 + 1) ∧
 I64 (n_1 + 1) ∧
 I64 (n_1 + 1) ∧
 I64 (n_1 + 1) ∧
 Made (n_1 + 1) 8 ∧
 Made (n_1 + 1) 8 ∧
 Made (n_1 + 1) 8 ∧
 Made (n_1 + 1) 8 ∧
 (Len clauses_3 →
 VLoop (σ := (List Raw) × (List (Int × Raw)) × LI × LI × LI × LI × LI × Int × (List (Bool × LI)) × Bool × Arena × Int) (([] : List Raw), ([] : List (Int × Raw)), (List.replicate (n_1 + 1).toNat (0 : Int)), (List.replicate (n_1 + 1).toNat (0 : Int)), (List.replicate (n_1 + 1).toNat (0 : Int)), ([] : LI), ([] : LI), 0, ([] : List (Bool × LI)), false, ([] : Arena), 0) fun (c_121, c_125, c_129, c_134, c_139, c_144, c_149, c_153, c_156, c_160, A_161, x_164) xnext_214 =>
 (x_164 < (clauses_3.length : Int) →
 In x_164 clauses_3 ∧
 V_add n_1 c_121 c_125 c_129 c_134 c_139 c_144 c_149 c_153 (List.replicate (n_1 + 1).toNat ()) c_156 c_160 A_161 (ix clauses_3 x_164) fun c_223 m_227 c_230 c_234 c_238 c_242 c_246 c_248 A_249 =>
 I64 (x_164 + 1) ∧
 xnext_214 (c_223, m_227, c_230, c_234, c_238, c_242, c_149, c_246, c_156, c_248, A_249, (x_164 + 1))) ∧
 (¬ (x_164 < (clauses_3.length : Int)) →
 Q n_1 c_121 c_125 c_129 c_134 c_139 c_144 c_149 c_153 (List.replicate (n_1 + 1).toNat ()) c_156 c_160 A_161))

/-- sat.Solve: what is to be shown. -/
def V_Solve (n_1 : Int) (clauses_3 : List LI) (suppose_6 : LI) (Q : Bool → (List Bool) → LI → (List (Bool × LI)) → (Option Int) → Prop) : Prop :=
 V_checked n_1 clauses_3 suppose_6 fun r_14 =>
 (r_14 ≠ none →
 Q false ([] : List Bool) ([] : LI) ([] : List (Bool × LI)) r_14) ∧
 (¬ (r_14 ≠ none) →
 V_newSolver n_1 clauses_3 fun r_23 r_25 r_30 r_35 r_40 r_45 r_50 r_55 r_60 r_62 r_70 r_75 A_80 =>
 V_run r_23 r_25 r_30 r_35 r_40 r_45 r_50 r_55 r_60 r_62 r_70 r_75 A_80 suppose_6 fun r_82 r_83 r_86 r_89 =>
 Q r_82 r_83 r_86 r_89 none)

/-- sextantlaw9.SatSolves: what is to be shown. -/
def V_SatSolves (n_1 : Int) (clauses_3 : List LI) (suppose_6 : LI) (model_9 : List Bool) (Q : Bool → Prop) : Prop :=
 V_copied clauses_3 fun r_12 =>
 Room (([] : LI).length + suppose_6.length) 8 ∧
 V_Fault n_1 clauses_3 fun r_28 =>
 V_lawLiterals n_1 suppose_6 fun r_31 =>
 VMeet (σ := Int) (fun f_37 =>
 ((f_37 = 0) ∧ (24 < n_1) →
 Q true) ∧
 (¬ ((f_37 = 0) ∧ (24 < n_1)) →
 V_Solve n_1 r_12 suppose_6 fun r_56 r_57 r_60 r_63 r_66 =>
 V_Error r_66 f_37 fun r_74 =>
 V_sameClauses r_12 clauses_3 fun r_76 =>
 V_sameInts suppose_6 suppose_6 fun r_78 =>
 ((((!r_74) = true) ∨ ((!r_76) = true)) ∨ ((!r_78) = true) →
 Q false) ∧
 (¬ ((((!r_74) = true) ∨ ((!r_76) = true)) ∨ ((!r_78) = true)) →
 (f_37 ≠ 0 →
 VMeet (σ := Bool) (fun x_92 =>
 Q x_92) fun J_93 =>
 ((!r_56) = true →
 (Len r_57 →
 ((r_57.length : Int) = 0 →
 (Len r_60 →
 ((r_60.length : Int) = 0 →
 (Len r_63 →
 J_93 (decide ((r_63.length : Int) = 0)))) ∧
 (¬ ((r_60.length : Int) = 0) →
 J_93 false))) ∧
 (¬ ((r_57.length : Int) = 0) →
 J_93 false))) ∧
 ((!r_56) = false →
 J_93 false)) ∧
 (¬ (f_37 ≠ 0) →
 V_copied clauses_3 fun r_104 =>
 (r_56 = true →
 VLoop (σ := (List LI) × Int) (r_104, 0) fun (units_174, i_178) xnext_211 =>
 (Len suppose_6 →
 (i_178 < (suppose_6.length : Int) →
 In i_178 suppose_6 ∧
 (I64 (ix suppose_6 i_178) →
 Room (units_174.length + ([[(ix suppose_6 i_178)]]).length) 24 ∧
 I64 (i_178 + 1) ∧
 xnext_211 ((units_174 ++ ([[(ix suppose_6 i_178)]])), (i_178 + 1)))) ∧
 (¬ (i_178 < (suppose_6.length : Int)) →
 V_Models units_174 r_57 fun r_241 =>
 VMeet (σ := Bool) (fun x_254 =>
 Q x_254) fun J_255 =>
 (r_241 = true →
 (Len r_57 →
 ((r_57.length : Int) = n_1 →
 (Len r_60 →
 ((r_60.length : Int) = 0 →
 (Len r_63 →
 J_255 (decide ((r_63.length : Int) = 0)))) ∧
 (¬ ((r_60.length : Int) = 0) →
 J_255 false))) ∧
 (¬ ((r_57.length : Int) = n_1) →
 J_255 false))) ∧
 (r_241 = false →
 J_255 false)))) ∧
 (r_56 = false →
 VLoop (σ := (List LI) × Int × Int) (r_104, 0, 0) fun (units_893, xat_897, i_899) xnext_1213 =>
 (Len r_60 →
 (i_899 < (r_60.length : Int) →
 VLoop (σ := Bool × Int) (true, 0) fun (once_1254, k_1255) xnext_1302 =>
 (k_1255 < i_899 →
 VMeet (σ := Bool) (fun once_1322 =>
 I64 (k_1255 + 1) ∧
 xnext_1302 (once_1322, (k_1255 + 1))) fun J_1323 =>
 (once_1254 = true →
 In k_1255 r_60 ∧
 (I64 (ix r_60 k_1255) →
 In i_899 r_60 ∧
 (I64 (ix r_60 i_899) →
 J_1323 (decide ((ix r_60 k_1255) ≠ (ix r_60 i_899)))))) ∧
 (once_1254 = false →
 J_1323 false)) ∧
 (¬ (k_1255 < i_899) →
 VLoop (σ := Int) xat_897 fun xat_1391 xnext_1441 =>
 VMeet (σ := Bool) (fun x_1462 =>
 (x_1462 = true →
 I64 (xat_1391 + 1) ∧
 xnext_1441 (xat_1391 + 1)) ∧
 (x_1462 = false →
 (Len suppose_6 →
 ((xat_1391 = (suppose_6.length : Int)) ∨ ((!once_1254) = true) →
 Q false) ∧
 (¬ ((xat_1391 = (suppose_6.length : Int)) ∨ ((!once_1254) = true)) →
 In i_899 r_60 ∧
 (I64 (ix r_60 i_899) →
 Room (units_893.length + ([[(ix r_60 i_899)]]).length) 24 ∧
 I64 (i_899 + 1) ∧
 xnext_1213 ((units_893 ++ ([[(ix r_60 i_899)]])), xat_1391, (i_899 + 1))))))) fun J_1463 =>
 (Len suppose_6 →
 (xat_1391 < (suppose_6.length : Int) →
 In xat_1391 suppose_6 ∧
 (I64 (ix suppose_6 xat_1391) →
 In i_899 r_60 ∧
 (I64 (ix r_60 i_899) →
 J_1463 (decide ((ix suppose_6 xat_1391) ≠ (ix r_60 i_899)))))) ∧
 (¬ (xat_1391 < (suppose_6.length : Int)) →
 J_1463 false)))) ∧
 (¬ (i_899 < (r_60.length : Int)) →
 (Len units_893 →
 (33554432 < (units_893.length : Int) →
 Q true) ∧
 (¬ (33554432 < (units_893.length : Int)) →
 V_refChecked n_1 units_893 r_63 fun r_1526 =>
 VMeet (σ := Bool) (fun other_1538 =>
 VMeet (σ := Bool) (fun x_1553 =>
 Q x_1553) fun J_1554 =>
 (r_1526 = true →
 ((!other_1538) = true →
 (Len r_57 →
 J_1554 (decide ((r_57.length : Int) = 0)))) ∧
 ((!other_1538) = false →
 J_1554 false)) ∧
 (r_1526 = false →
 J_1554 false)) fun J_1539 =>
 (Len model_9 →
 ((model_9.length : Int) = n_1 →
 V_Models units_893 model_9 fun r_1544 =>
 J_1539 r_1544) ∧
 (¬ ((model_9.length : Int) = n_1) →
 J_1539 false))))))))))) fun J_39 =>
 ((r_28 = 0) ∧ ((!r_31) = true) →
 J_39 5) ∧
 (¬ ((r_28 = 0) ∧ ((!r_31) = true)) →
 J_39 r_28)

end Go.Vc
