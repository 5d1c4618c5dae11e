/- For each function: what is to be shown of plain data so that it does its work. Printed by program. -/
import Derived.Test.YtdflojjpjklbfaaBox
import Derived.Test.YtdflojjpjklbfaaManS
set_option linter.unusedVariables false
namespace Go.Vc
/-- sextantsame.Ints: what is to be shown. -/
def V_sameInts (a_1 : List Int) (b_4 : List Int) (Q : Bool → Prop) : Prop :=
  (Len a_1 →
  (Len b_4 →
  ((a_1.length : Int) ≠ (b_4.length : Int) →
    Q false) ∧
  (¬ ((a_1.length : Int) ≠ (b_4.length : Int)) →
    VLoop (σ := Int) 0 fun i_25 xnext_45 =>
      (Len a_1 →
      (i_25 < (a_1.length : Int) →
        In i_25 a_1 ∧
        (I64 (ix a_1 i_25) →
        In i_25 b_4 ∧
        (I64 (ix b_4 i_25) →
        ((ix a_1 i_25) ≠ (ix b_4 i_25) →
          Q false) ∧
        (¬ ((ix a_1 i_25) ≠ (ix b_4 i_25)) →
          I64 (i_25 + 1) ∧
          xnext_45 (i_25 + 1))))) ∧
      (¬ (i_25 < (a_1.length : Int)) →
        Q true)))))

/-- sextantref9.size: what is to be shown. -/
def V_size (l_1 : Int) (Q : Int → Prop) : Prop :=
  (l_1 < 0 →
    Q (wneg l_1)) ∧
  (¬ (l_1 < 0) →
    Q l_1)

/-- sextantref9.Literal: what is to be shown. -/
def V_Literal (n_1 : Int) (l_3 : Int) (Q : Bool → Prop) : Prop :=
  VMeet (σ := Bool) (fun x_7 =>
      Q x_7) fun J_8 =>
    (l_3 ≠ 0 →
      ((wneg n_1) ≤ l_3 →
        J_8 (decide (l_3 ≤ n_1))) ∧
      (¬ ((wneg n_1) ≤ l_3) →
        J_8 false)) ∧
    (¬ (l_3 ≠ 0) →
      J_8 false)

/-- sextantref9.literals: what is to be shown. -/
def V_refLiterals (n_1 : Int) (l_3 : List Int) (Q : Bool → Prop) : Prop :=
  VLoop (σ := Int) 0 fun i_18 xnext_34 =>
    (Len l_3 →
    (i_18 < (l_3.length : Int) →
      In i_18 l_3 ∧
      (I64 (ix l_3 i_18) →
      V_Literal n_1 (ix l_3 i_18) fun r_42 =>
        ((!r_42) = true →
          Q false) ∧
        ((!r_42) = false →
          I64 (i_18 + 1) ∧
          xnext_34 (i_18 + 1)))) ∧
    (¬ (i_18 < (l_3.length : Int)) →
      Q true))

/-- sextantref9.Fault: what is to be shown. -/
def V_Fault (n_1 : Int) (clauses_3 : List (List Int)) (Q : Int → Prop) : Prop :=
  ((n_1 < 0) ∨ (16777216 < n_1) →
    Q 5) ∧
  (¬ ((n_1 < 0) ∨ (16777216 < n_1)) →
    (Len clauses_3 →
    (33554432 < (clauses_3.length : Int) →
      Q 6) ∧
    (¬ (33554432 < (clauses_3.length : Int)) →
      VLoop (σ := Int) 0 fun i_19 xnext_34 =>
        (Len clauses_3 →
        (i_19 < (clauses_3.length : Int) →
          In i_19 clauses_3 ∧
          V_refLiterals n_1 (ix clauses_3 i_19) fun r_41 =>
            ((!r_41) = true →
              Q 5) ∧
            ((!r_41) = false →
              I64 (i_19 + 1) ∧
              xnext_34 (i_19 + 1))) ∧
        (¬ (i_19 < (clauses_3.length : Int)) →
          Q 0)))))

/-- sextantref9.set: what is to be shown. -/
def V_refSet (val_1 : List Int) (l_6 : Int) (Q : Bool → (List Int) → Prop) : Prop :=
  VMeet (σ := Int) (fun v_9 =>
      V_size l_6 fun r_14 =>
        In r_14 val_1 ∧
        (I64 (ix val_1 r_14) →
        I64 (-v_9) ∧
        ((ix val_1 r_14) = (-v_9) →
          Q false val_1) ∧
        (¬ ((ix val_1 r_14) = (-v_9)) →
          In r_14 val_1 ∧
          Q true (val_1.set r_14.toNat v_9)))) fun J_11 =>
    (l_6 < 0 →
      J_11 (-1)) ∧
    (¬ (l_6 < 0) →
      J_11 1)

/-- sextantref9.unit: what is to be shown. -/
def V_refUnit (val_1 : List Int) (c_4 : List Int) (Q : Int → Int → Prop) : Prop :=
  VLoop (σ := Int × Int) (0, 0) fun (xopen_140, i_142) xnext_279 =>
    (Len c_4 →
    (i_142 < (c_4.length : Int) →
      VMeet (σ := Int) (fun xopen_344 =>
          I64 (i_142 + 1) ∧
          xnext_279 (xopen_344, (i_142 + 1))) fun J_346 =>
        In i_142 c_4 ∧
        (I64 (ix c_4 i_142) →
        V_size (ix c_4 i_142) fun r_354 =>
          In r_354 val_1 ∧
          (I64 (ix val_1 r_354) →
          VMeet (σ := Int) (fun v_371 =>
              (0 < v_371 →
                Q 0 2) ∧
              (¬ (0 < v_371) →
                VMeet (σ := Bool) (fun x_391 =>
                    (x_391 = true →
                      Q 0 2) ∧
                    (x_391 = false →
                      (v_371 = 0 →
                        In i_142 c_4 ∧
                        (I64 (ix c_4 i_142) →
                        J_346 (ix c_4 i_142))) ∧
                      (¬ (v_371 = 0) →
                        J_346 xopen_140))) fun J_392 =>
                  (v_371 = 0 →
                    (xopen_140 ≠ 0 →
                      In i_142 c_4 ∧
                      (I64 (ix c_4 i_142) →
                      J_392 (decide ((ix c_4 i_142) ≠ xopen_140)))) ∧
                    (¬ (xopen_140 ≠ 0) →
                      J_392 false)) ∧
                  (¬ (v_371 = 0) →
                    J_392 false))) fun J_373 =>
            In i_142 c_4 ∧
            (I64 (ix c_4 i_142) →
            ((ix c_4 i_142) < 0 →
              I64 (-(ix val_1 r_354)) ∧
              J_373 (-(ix val_1 r_354))) ∧
            (¬ ((ix c_4 i_142) < 0) →
              J_373 (ix val_1 r_354)))))) ∧
    (¬ (i_142 < (c_4.length : Int)) →
      (xopen_140 = 0 →
        Q 0 0) ∧
      (¬ (xopen_140 = 0) →
        Q xopen_140 1)))

/-- sextantref9.Follow: what is to be shown. -/
def V_refFollow (n_1 : Int) (clauses_3 : List (List Int)) (given_6 : List Int) (Q : (List Int) → Bool → Prop) : Prop :=
  I64 (n_1 + 1) ∧
  Made (n_1 + 1) 8 ∧
  VLoop (σ := (List Int) × Int) ((List.replicate (n_1 + 1).toNat 0), 0) fun (val_33, i_37) xnext_57 =>
    (Len given_6 →
    (i_37 < (given_6.length : Int) →
      In i_37 given_6 ∧
      (I64 (ix given_6 i_37) →
      V_refSet val_33 (ix given_6 i_37) fun r_65 c_66 =>
        ((!r_65) = true →
          Q ([] : List Int) false) ∧
        ((!r_65) = false →
          I64 (i_37 + 1) ∧
          xnext_57 (c_66, (i_37 + 1))))) ∧
    (¬ (i_37 < (given_6.length : Int)) →
      VLoop (σ := (List Int)) val_33 fun val_246 xnext_424 =>
        VLoop (σ := (List Int) × Bool × Int) (val_246, false, 0) fun (val_479, more_483, i_484) xnext_541 =>
          (Len clauses_3 →
          (i_484 < (clauses_3.length : Int) →
            VMeet (σ := (List Int) × Bool) (fun (val_565, more_569) =>
                I64 (i_484 + 1) ∧
                xnext_541 (val_565, more_569, (i_484 + 1))) fun J_570 =>
              In i_484 clauses_3 ∧
              V_refUnit val_479 (ix clauses_3 i_484) fun r_578 r_580 =>
                (r_580 = 0 →
                  Q ([] : List Int) false) ∧
                (¬ (r_580 = 0) →
                  (r_580 = 1 →
                    V_refSet val_479 r_578 fun r_586 c_587 =>
                      J_570 (c_587, true)) ∧
                  (¬ (r_580 = 1) →
                    J_570 (val_479, more_483)))) ∧
          (¬ (i_484 < (clauses_3.length : Int)) →
            ((!more_483) = true →
              Q val_479 true) ∧
            ((!more_483) = false →
              xnext_424 val_479)))))

/-- sextantref9.within: what is to be shown. -/
def V_within (a_1 : List Int) (b_4 : List Int) (Q : Bool → Prop) : Prop :=
  VLoop (σ := Int) 0 fun i_109 xnext_215 =>
    (Len a_1 →
    (i_109 < (a_1.length : Int) →
      VLoop (σ := Bool × Int) (false, 0) fun (there_244, k_245) xnext_281 =>
        (Len b_4 →
        (k_245 < (b_4.length : Int) →
          VMeet (σ := Bool) (fun there_296 =>
              I64 (k_245 + 1) ∧
              xnext_281 (there_296, (k_245 + 1))) fun J_297 =>
            (there_244 = true →
              J_297 true) ∧
            (there_244 = false →
              In i_109 a_1 ∧
              (I64 (ix a_1 i_109) →
              In k_245 b_4 ∧
              (I64 (ix b_4 k_245) →
              J_297 (decide ((ix a_1 i_109) = (ix b_4 k_245))))))) ∧
        (¬ (k_245 < (b_4.length : Int)) →
          ((!there_244) = true →
            Q false) ∧
          ((!there_244) = false →
            I64 (i_109 + 1) ∧
            xnext_215 (i_109 + 1))))) ∧
    (¬ (i_109 < (a_1.length : Int)) →
      Q true))

/-- sextantref9.alike: what is to be shown. -/
def V_refAlike (a_1 : List Int) (b_4 : List Int) (Q : Bool → Prop) : Prop :=
  V_within a_1 b_4 fun r_7 =>
    V_within b_4 a_1 fun r_9 =>
      Q (decide ((r_7 = true) ∧ (r_9 = true)))

/-- sextantref9.gone: what is to be shown. -/
def V_gone (l_1 : List (List Int)) (c_6 : List Int) (Q : (List (List Int)) → Prop) : Prop :=
  VLoop (σ := Int) 0 fun i_39 xnext_72 =>
    (Len l_1 →
    (i_39 < (l_1.length : Int) →
      In i_39 l_1 ∧
      V_refAlike (ix l_1 i_39) c_6 fun r_79 =>
        (r_79 = true →
          (0 ≤ i_39 ∧ i_39 ≤ (l_1.length : Int)) ∧
          Room (([] : List (List Int)).length + (l_1.take i_39.toNat).length) 24 ∧
          I64 (i_39 + 1) ∧
          (0 ≤ (i_39 + 1) ∧ (i_39 + 1) ≤ (l_1.length : Int)) ∧
          Room ((l_1.take i_39.toNat).length + (l_1.drop (i_39 + 1).toNat).length) 24 ∧
          Q ((l_1.take i_39.toNat) ++ (l_1.drop (i_39 + 1).toNat))) ∧
        (r_79 = false →
          I64 (i_39 + 1) ∧
          xnext_72 (i_39 + 1))) ∧
    (¬ (i_39 < (l_1.length : Int)) →
      Q l_1))

/-- sextantref9.Makes: what is to be shown. -/
def V_Makes (c_1 : List Int) (model_4 : List Bool) (Q : Bool → Prop) : Prop :=
  VLoop (σ := Int) 0 fun i_53 xnext_103 =>
    (Len c_1 →
    (i_53 < (c_1.length : Int) →
      In i_53 c_1 ∧
      (I64 (ix c_1 i_53) →
      V_size (ix c_1 i_53) fun r_111 =>
        VMeet (σ := Bool) (fun x_129 =>
            (x_129 = true →
              Q true) ∧
            (x_129 = false →
              I64 (i_53 + 1) ∧
              xnext_103 (i_53 + 1))) fun J_130 =>
          (0 < r_111 →
            (Len model_4 →
            (r_111 ≤ (model_4.length : Int) →
              I64 (r_111 - 1) ∧
              In (r_111 - 1) model_4 ∧
              In i_53 c_1 ∧
              (I64 (ix c_1 i_53) →
              J_130 ((ix model_4 (r_111 - 1)) == (decide (0 < (ix c_1 i_53)))))) ∧
            (¬ (r_111 ≤ (model_4.length : Int)) →
              J_130 false))) ∧
          (¬ (0 < r_111) →
            J_130 false))) ∧
    (¬ (i_53 < (c_1.length : Int)) →
      Q false))

/-- sextantref9.Models: what is to be shown. -/
def V_Models (clauses_1 : List (List Int)) (model_4 : List Bool) (Q : Bool → Prop) : Prop :=
  VLoop (σ := Int) 0 fun i_18 xnext_33 =>
    (Len clauses_1 →
    (i_18 < (clauses_1.length : Int) →
      In i_18 clauses_1 ∧
      V_Makes (ix clauses_1 i_18) model_4 fun r_40 =>
        ((!r_40) = true →
          Q false) ∧
        ((!r_40) = false →
          I64 (i_18 + 1) ∧
          xnext_33 (i_18 + 1))) ∧
    (¬ (i_18 < (clauses_1.length : Int)) →
      Q true))

/-- sextantlaw9.copied: what is to be shown. -/
def V_copied (l_1 : List (List Int)) (Q : (List (List Int)) → Prop) : Prop :=
  VLoop (σ := (List (List Int)) × Int) (([] : List (List Int)), 0) fun (out_69, i_73) xnext_106 =>
    (Len l_1 →
    (i_73 < (l_1.length : Int) →
      In i_73 l_1 ∧
      Room (([] : List Int).length + (ix l_1 i_73).length) 8 ∧
      Room (out_69.length + ([(ix l_1 i_73)]).length) 24 ∧
      I64 (i_73 + 1) ∧
      xnext_106 ((out_69 ++ ([(ix l_1 i_73)])), (i_73 + 1))) ∧
    (¬ (i_73 < (l_1.length : Int)) →
      Q out_69))

/-- sextantlaw9.sameClauses: what is to be shown. -/
def V_sameClauses (a_1 : List (List Int)) (b_4 : List (List Int)) (Q : Bool → Prop) : Prop :=
  (Len a_1 →
  (Len b_4 →
  ((a_1.length : Int) ≠ (b_4.length : Int) →
    Q false) ∧
  (¬ ((a_1.length : Int) ≠ (b_4.length : Int)) →
    VLoop (σ := Int) 0 fun i_26 xnext_47 =>
      (Len a_1 →
      (i_26 < (a_1.length : Int) →
        In i_26 a_1 ∧
        In i_26 b_4 ∧
        ∃ (r_59 : Bool), V_sameInts (ix a_1 i_26) (ix b_4 i_26) (fun y0 => y0 = r_59) ∧ 
        ((!r_59) = true →
          Q false) ∧
        ((!r_59) = false →
          I64 (i_26 + 1) ∧
          xnext_47 (i_26 + 1))) ∧
      (¬ (i_26 < (a_1.length : Int)) →
        Q true)))))

/-- sextantref9.Checked: what is to be shown. -/
def V_refChecked (n_1 : Int) (clauses_3 : List (List Int)) (proof_6 : List (Bool × List Int)) (Q : Bool → Prop) : Prop :=
  V_Fault n_1 clauses_3 fun r_9 =>
    (r_9 ≠ 0 →
      Q false) ∧
    (¬ (r_9 ≠ 0) →
      VLoop (σ := Int) 0 fun i_25 xnext_42 =>
        (Len proof_6 →
        (i_25 < (proof_6.length : Int) →
          In i_25 proof_6 ∧
          V_refLiterals n_1 ((ix proof_6 i_25).2) fun r_51 =>
            ((!r_51) = true →
              Q false) ∧
            ((!r_51) = false →
              I64 (i_25 + 1) ∧
              xnext_42 (i_25 + 1))) ∧
        (¬ (i_25 < (proof_6.length : Int)) →
          Room (([] : List (List Int)).length + clauses_3.length) 24 ∧
          VLoop (σ := (List (List Int)) × Bool × Int) (clauses_3, false, 0) fun (l_301, shown_305, i_306) xnext_551 =>
            (Len proof_6 →
            (i_306 < (proof_6.length : Int) →
              VMeet (σ := (List (List Int)) × Bool) (fun (l_669, shown_673) =>
                  I64 (i_306 + 1) ∧
                  xnext_551 (l_669, shown_673, (i_306 + 1))) fun J_674 =>
                In i_306 proof_6 ∧
                In i_306 proof_6 ∧
                (((ix proof_6 i_306).1) = true →
                  V_gone l_301 ((ix proof_6 i_306).2) fun r_690 =>
                    J_674 (r_690, shown_305)) ∧
                (((ix proof_6 i_306).1) = false →
                  VLoop (σ := (List Int) × Int) (([] : List Int), 0) fun (opposite_717, k_721) xnext_744 =>
                    (Len ((ix proof_6 i_306).2) →
                    (k_721 < (((ix proof_6 i_306).2).length : Int) →
                      In k_721 ((ix proof_6 i_306).2) ∧
                      (I64 (ix ((ix proof_6 i_306).2) k_721) →
                      I64 (-(ix ((ix proof_6 i_306).2) k_721)) ∧
                      Room (opposite_717.length + ([(-(ix ((ix proof_6 i_306).2) k_721))]).length) 8 ∧
                      I64 (k_721 + 1) ∧
                      xnext_744 ((opposite_717 ++ ([(-(ix ((ix proof_6 i_306).2) k_721))])), (k_721 + 1)))) ∧
                    (¬ (k_721 < (((ix proof_6 i_306).2).length : Int)) →
                      V_refFollow n_1 l_301 opposite_717 fun r_765 r_770 =>
                        (r_770 = true →
                          Q false) ∧
                        (r_770 = false →
                          Room (l_301.length + ([((ix proof_6 i_306).2)]).length) 24 ∧
                          (Len ((ix proof_6 i_306).2) →
                          J_674 ((l_301 ++ ([((ix proof_6 i_306).2)])), decide ((shown_305 = true) ∨ ((((ix proof_6 i_306).2).length : Int) = 0))))))))) ∧
            (¬ (i_306 < (proof_6.length : Int)) →
              Q shown_305)))))

/-- sat.valid$1: what is to be shown. -/
def V_valid1 (l_1 : Int) (c_3_6 : Int) (Q : Bool → Prop) : Prop :=
  VMeet (σ := Bool) (fun x_11 =>
      Q x_11) fun J_12 =>
    (l_1 = 0 →
      J_12 true) ∧
    (¬ (l_1 = 0) →
      (c_3_6 < l_1 →
        J_12 true) ∧
      (¬ (c_3_6 < l_1) →
        I64 (-c_3_6) ∧
        J_12 (decide (l_1 < (-c_3_6)))))

/-- slices.IndexFunc[[]int,int]: what is to be shown. -/
def V_IndexFuncI (s_1 : List Int) (G1 : Int → (Bool → Prop) → Prop) (Q : Int → Prop) : Prop :=
  (Len s_1 →
  VLoop (σ := Int) 0 fun x_17 xnext_31 =>
    (x_17 < (s_1.length : Int) →
      In x_17 s_1 ∧
      (I64 (ix s_1 x_17) →
      G1 (ix s_1 x_17) fun r_38 =>
        (r_38 = true →
          Q x_17) ∧
        (r_38 = false →
          I64 (x_17 + 1) ∧
          xnext_31 (x_17 + 1)))) ∧
    (¬ (x_17 < (s_1.length : Int)) →
      Q (-1)))

/-- slices.ContainsFunc[[]int,int]: what is to be shown. -/
def V_ContainsFuncI (s_1 : List Int) (G1 : Int → (Bool → Prop) → Prop) (Q : Bool → Prop) : Prop :=
  V_IndexFuncI s_1 G1 fun r_6 =>
    Q (decide (0 ≤ r_6))

/-- sat.valid: what is to be shown. -/
def V_valid (n_1 : Int) (clause_3 : List Int) (Q : Bool → Prop) : Prop :=
  V_ContainsFuncI clause_3 (fun x1 K => V_valid1 x1 n_1 K) fun r_8 =>
    Q (!r_8)

/-- sat.checked$1: what is to be shown. -/
def V_checked1 (c_1 : List Int) (c_4_7 : Int) (Q : Bool → Prop) : Prop :=
  V_valid c_4_7 c_1 fun r_9 =>
    Q (!r_9)

/-- slices.IndexFunc[[][]int,[]int]: what is to be shown. -/
def V_IndexFuncL (s_1 : List (List Int)) (G1 : (List Int) → (Bool → Prop) → Prop) (Q : Int → Prop) : Prop :=
  (Len s_1 →
  VLoop (σ := Int) 0 fun x_16 xnext_29 =>
    (x_16 < (s_1.length : Int) →
      In x_16 s_1 ∧
      G1 (ix s_1 x_16) fun r_35 =>
        (r_35 = true →
          Q x_16) ∧
        (r_35 = false →
          I64 (x_16 + 1) ∧
          xnext_29 (x_16 + 1))) ∧
    (¬ (x_16 < (s_1.length : Int)) →
      Q (-1)))

/-- slices.ContainsFunc[[][]int,[]int]: what is to be shown. -/
def V_ContainsFuncL (s_1 : List (List Int)) (G1 : (List Int) → (Bool → Prop) → Prop) (Q : Bool → Prop) : Prop :=
  V_IndexFuncL s_1 G1 fun r_6 =>
    Q (decide (0 ≤ r_6))

/-- sat.checked: what is to be shown. -/
def V_checked (n_1 : Int) (clauses_3 : List (List Int)) (more_6 : List Int) (Q : (Option Int) → Prop) : Prop :=
  VMeet (σ := Bool) (fun x_12 =>
      (x_12 = true →
        Q (some 5)) ∧
      (x_12 = false →
        (Len clauses_3 →
        (33554432 < (clauses_3.length : Int) →
          Q (some 6)) ∧
        (¬ (33554432 < (clauses_3.length : Int)) →
          VMeet (σ := Bool) (fun x_22 =>
              (x_22 = true →
                Q (some 5)) ∧
              (x_22 = false →
                Q none)) fun J_23 =>
            V_ContainsFuncL clauses_3 (fun x1 K => V_checked1 x1 n_1 K) fun r_25 =>
              (r_25 = true →
                J_23 true) ∧
              (r_25 = false →
                V_valid n_1 more_6 fun r_28 =>
                  J_23 (!r_28)))))) fun J_13 =>
    (n_1 < 0 →
      J_13 true) ∧
    (¬ (n_1 < 0) →
      J_13 (decide (16777216 < n_1)))

/-- slices.Clone[[]int,int]: what is to be shown. -/
def V_CloneI (s_1 : List Int) (Q : (List Int) → Prop) : Prop :=
  (∀ b_6 : Bool, (b_6 = true → s_1 = []) →
  (b_6 = true →
    Q ([] : List Int)) ∧
  (b_6 = false →
    Room (([] : List Int).length + s_1.length) 8 ∧
    Q s_1))

/-- slices.Clone[[][]int,[]int]: what is to be shown. -/
def V_CloneL (s_1 : List (List Int)) (Q : (List (List Int)) → Prop) : Prop :=
  (∀ b_6 : Bool, (b_6 = true → s_1 = []) →
  (b_6 = true →
    Q ([] : List (List Int))) ∧
  (b_6 = false →
    Room (([] : List (List Int)).length + s_1.length) 24 ∧
    Q s_1))

/-- sat.follow$1: what is to be shown. -/
def V_followSet (l_1 : Int) (c_3_6 : List Int) (Q : Bool → (List Int) → Prop) : Prop :=
  I64 (-l_1) ∧
  VMeet (σ := Int) (fun x_13 =>
      In (max l_1 (-l_1)) c_3_6 ∧
      (I64 (ix c_3_6 (max l_1 (-l_1))) →
      In (max l_1 (-l_1)) c_3_6 ∧
      I64 (-x_13) ∧
      Q (decide ((ix c_3_6 (max l_1 (-l_1))) ≠ (-x_13))) (c_3_6.set (max l_1 (-l_1)).toNat x_13))) fun J_15 =>
    (l_1 < 0 →
      J_15 (-1)) ∧
    (¬ (l_1 < 0) →
      J_15 1)

/-- sat.follow$2: what is to be shown. -/
def V_followOf (l_1 : Int) (c_3_6 : List Int) (Q : Int → Prop) : Prop :=
  (l_1 < 0 →
    I64 (-l_1) ∧
    In (-l_1) c_3_6 ∧
    (I64 (ix c_3_6 (-l_1)) →
    I64 (-(ix c_3_6 (-l_1))) ∧
    Q (-(ix c_3_6 (-l_1))))) ∧
  (¬ (l_1 < 0) →
    In l_1 c_3_6 ∧
    (I64 (ix c_3_6 l_1) →
    Q (ix c_3_6 l_1)))

/-- sat.follow: what is to be shown. -/
def V_follow (n_1 : Int) (clauses_3 : List (List Int)) (given_6 : List Int) (Q : (List Int) → Bool → Prop) : Prop :=
  I64 (n_1 + 1) ∧
  Made (n_1 + 1) 8 ∧
  (Len given_6 →
  VLoop (σ := (List Int) × Int) ((List.replicate (n_1 + 1).toNat 0), 0) fun (c_37, x_41) xnext_61 =>
    (x_41 < (given_6.length : Int) →
      In x_41 given_6 ∧
      (I64 (ix given_6 x_41) →
      V_followSet (ix given_6 x_41) c_37 fun r_68 c_69 =>
        ((!r_68) = true →
          Q ([] : List Int) false) ∧
        ((!r_68) = false →
          I64 (x_41 + 1) ∧
          xnext_61 (c_69, (x_41 + 1))))) ∧
    (¬ (x_41 < (given_6.length : Int)) →
      VLoop (σ := (List Int) × Bool) (c_37, true) fun (c_1513, again_1517) xnext_2956 =>
        (again_1517 = true →
          (Len clauses_3 →
          VLoop (σ := (List Int) × Bool × Int) (c_1513, false, 0) fun (c_3433, again_3437, x_3438) xnext_3916 =>
            (x_3438 < (clauses_3.length : Int) →
              VMeet (σ := (List Int) × Bool) (fun (c_4150, again_4154) =>
                  I64 (x_3438 + 1) ∧
                  xnext_3916 (c_4150, again_4154, (x_3438 + 1))) fun J_4155 =>
                In x_3438 clauses_3 ∧
                (Len (ix clauses_3 x_3438) →
                VLoop (σ := Int × Int) (0, 0) fun (left_4233, x_4235) xnext_4309 =>
                  (x_4235 < ((ix clauses_3 x_3438).length : Int) →
                    VMeet (σ := Int) (fun left_4342 =>
                        I64 (x_4235 + 1) ∧
                        xnext_4309 (left_4342, (x_4235 + 1))) fun J_4344 =>
                      In x_4235 (ix clauses_3 x_3438) ∧
                      (I64 (ix (ix clauses_3 x_3438) x_4235) →
                      VMeet (σ := Bool) (fun x_4361 =>
                          (x_4361 = true →
                            J_4155 (c_3433, again_3437)) ∧
                          (x_4361 = false →
                            V_followOf (ix (ix clauses_3 x_3438) x_4235) c_3433 fun r_4373 =>
                              (r_4373 = 0 →
                                J_4344 (ix (ix clauses_3 x_3438) x_4235)) ∧
                              (¬ (r_4373 = 0) →
                                J_4344 left_4233))) fun J_4362 =>
                        V_followOf (ix (ix clauses_3 x_3438) x_4235) c_3433 fun r_4364 =>
                          (0 < r_4364 →
                            J_4362 (decide (0 < r_4364))) ∧
                          (¬ (0 < r_4364) →
                            V_followOf (ix (ix clauses_3 x_3438) x_4235) c_3433 fun r_4367 =>
                              (r_4367 = 0 →
                                (left_4233 ≠ 0 →
                                  J_4362 (decide (left_4233 ≠ (ix (ix clauses_3 x_3438) x_4235)))) ∧
                                (¬ (left_4233 ≠ 0) →
                                  J_4362 false)) ∧
                              (¬ (r_4367 = 0) →
                                J_4362 false)))) ∧
                  (¬ (x_4235 < ((ix clauses_3 x_3438).length : Int)) →
                    (left_4233 = 0 →
                      Q ([] : List Int) false) ∧
                    (¬ (left_4233 = 0) →
                      V_followSet left_4233 c_3433 fun r_4380 c_4381 =>
                        J_4155 (c_4381, true))))) ∧
            (¬ (x_3438 < (clauses_3.length : Int)) →
              xnext_2956 (c_3433, again_3437)))) ∧
        (again_1517 = false →
          VLoop (σ := (List Int) × Int) (([] : List Int), 1) fun (out_4449, v_4453) xnext_4512 =>
            (v_4453 ≤ n_1 →
              VMeet (σ := (List Int)) (fun out_4537 =>
                  I64 (v_4453 + 1) ∧
                  xnext_4512 (out_4537, (v_4453 + 1))) fun J_4541 =>
                In v_4453 c_1513 ∧
                (I64 (ix c_1513 v_4453) →
                ((ix c_1513 v_4453) ≠ 0 →
                  In v_4453 c_1513 ∧
                  (I64 (ix c_1513 v_4453) →
                  I64 (v_4453 * (ix c_1513 v_4453)) ∧
                  Room (out_4449.length + ([(v_4453 * (ix c_1513 v_4453))]).length) 8 ∧
                  J_4541 (out_4449 ++ ([(v_4453 * (ix c_1513 v_4453))])))) ∧
                (¬ ((ix c_1513 v_4453) ≠ 0) →
                  J_4541 out_4449))) ∧
            (¬ (v_4453 ≤ n_1) →
              Q out_4449 true))))

/-- slices.Index[[]int,int]: what is to be shown. -/
def V_IndexI (s_1 : List Int) (v_4 : Int) (Q : Int → Prop) : Prop :=
  (Len s_1 →
  VLoop (σ := Int) 0 fun x_16 xnext_29 =>
    (x_16 < (s_1.length : Int) →
      In x_16 s_1 ∧
      (I64 (ix s_1 x_16) →
      (v_4 = (ix s_1 x_16) →
        Q x_16) ∧
      (¬ (v_4 = (ix s_1 x_16)) →
        I64 (x_16 + 1) ∧
        xnext_29 (x_16 + 1)))) ∧
    (¬ (x_16 < (s_1.length : Int)) →
      Q (-1)))

/-- slices.Contains[[]int,int]: what is to be shown. -/
def V_ContainsI (s_1 : List Int) (v_4 : Int) (Q : Bool → Prop) : Prop :=
  V_IndexI s_1 v_4 fun r_6 =>
    Q (decide (0 ≤ r_6))

/-- slices.Equal[[]int,int]: what is to be shown. -/
def V_EqualI (s1_1 : List Int) (s2_4 : List Int) (Q : Bool → Prop) : Prop :=
  (Len s1_1 →
  (Len s2_4 →
  ((s1_1.length : Int) ≠ (s2_4.length : Int) →
    Q false) ∧
  (¬ ((s1_1.length : Int) ≠ (s2_4.length : Int)) →
    (Len s1_1 →
    VLoop (σ := Int) 0 fun x_25 xnext_44 =>
      (x_25 < (s1_1.length : Int) →
        In x_25 s1_1 ∧
        (I64 (ix s1_1 x_25) →
        In x_25 s2_4 ∧
        (I64 (ix s2_4 x_25) →
        ((ix s1_1 x_25) ≠ (ix s2_4 x_25) →
          Q false) ∧
        (¬ ((ix s1_1 x_25) ≠ (ix s2_4 x_25)) →
          I64 (x_25 + 1) ∧
          xnext_44 (x_25 + 1))))) ∧
      (¬ (x_25 < (s1_1.length : Int)) →
        Q true)))))

/-- sat.tidy$1: what is to be shown. -/
def V_tidy1 (l_1 : Int) (c_3_6 : List Int) (Q : Bool → Prop) : Prop :=
  I64 (-l_1) ∧
  V_ContainsI c_3_6 (-l_1) fun r_10 =>
    Q r_10

/-- sat.tidy: what is to be shown. -/
def V_tidy (c_1 : List Int) (Q : (List Int) → Bool → Prop) : Prop :=
  V_CloneI c_1 fun r_5 =>
    V_SortI r_5 fun c_14 =>
      V_CompactI c_14 fun r_18 =>
        ∃ (r_26 : Bool), V_ContainsFuncI r_18 (fun x1 K => V_tidy1 x1 r_18 K) (fun y0 => y0 = r_26) ∧ 
        Q r_18 (!r_26)

/-- sat.alike: what is to be shown. -/
def V_alike (a_1 : List Int) (b_4 : List Int) (Q : Bool → Prop) : Prop :=
  V_tidy a_1 fun r_7 r_12 =>
    V_tidy b_4 fun r_14 r_19 =>
      V_EqualI r_7 r_14 fun r_23 =>
        Q r_23

/-- sat.Checked$1: what is to be shown. -/
def V_Checked1 (c_1 : List Int) (c_4_7 : Bool) (c_4_8 : List Int) (Q : Bool → Prop) : Prop :=
  V_alike c_1 c_4_8 fun r_11 =>
    Q r_11

/-- sat.Checked: what is to be shown. -/
def V_Checked (n_1 : Int) (clauses_3 : List (List Int)) (proof_6 : List (Bool × List Int)) (Q : Bool → Prop) : Prop :=
  V_checked n_1 clauses_3 ([] : List Int) fun r_10 =>
    (r_10 ≠ none →
      Q false) ∧
    (¬ (r_10 ≠ none) →
      V_CloneL clauses_3 fun r_12 =>
        (Len proof_6 →
        VLoop (σ := (List (List Int)) × Bool × Int) (r_12, false, 0) fun (there_310, shown_314, x_315) xnext_611 =>
          (x_315 < (proof_6.length : Int) →
            VMeet (σ := (List (List Int)) × Bool) (fun (there_754, shown_758) =>
                I64 (x_315 + 1) ∧
                xnext_611 (there_754, shown_758, (x_315 + 1))) fun J_759 =>
              In x_315 proof_6 ∧
              V_valid n_1 ((ix proof_6 x_315).2) fun r_772 =>
                ((!r_772) = true →
                  Q false) ∧
                ((!r_772) = false →
                  ((ix proof_6 x_315).1 = true →
                    VMeet (σ := (List (List Int))) (fun there_789 =>
                        J_759 (there_789, shown_314)) fun J_793 =>
                      V_IndexFuncL there_310 (fun x1 K => V_Checked1 x1 ((ix proof_6 x_315).1) ((ix proof_6 x_315).2) K) fun r_796 =>
                        (0 ≤ r_796 →
                          I64 (r_796 + 1) ∧
                          V_DeleteL there_310 r_796 (r_796 + 1) fun r_802 =>
                            J_793 r_802) ∧
                        (¬ (0 ≤ r_796) →
                          J_793 there_310)) ∧
                  ((ix proof_6 x_315).1 = false →
                    (Len ((ix proof_6 x_315).2) →
                    VLoop (σ := (List Int) × Int) (([] : List Int), 0) fun (not_830, x_834) xnext_856 =>
                      (x_834 < (((ix proof_6 x_315).2).length : Int) →
                        In x_834 ((ix proof_6 x_315).2) ∧
                        (I64 (ix ((ix proof_6 x_315).2) x_834) →
                        I64 (-(ix ((ix proof_6 x_315).2) x_834)) ∧
                        Room (not_830.length + ([(-(ix ((ix proof_6 x_315).2) x_834))]).length) 8 ∧
                        I64 (x_834 + 1) ∧
                        xnext_856 ((not_830 ++ ([(-(ix ((ix proof_6 x_315).2) x_834))])), (x_834 + 1)))) ∧
                      (¬ (x_834 < (((ix proof_6 x_315).2).length : Int)) →
                        V_follow n_1 there_310 not_830 fun r_876 r_881 =>
                          (r_881 = true →
                            Q false) ∧
                          (r_881 = false →
                            Room (there_310.length + ([(ix proof_6 x_315).2]).length) 24 ∧
                            (shown_314 = true →
                              J_759 ((there_310 ++ ([(ix proof_6 x_315).2])), true)) ∧
                            (shown_314 = false →
                              (Len ((ix proof_6 x_315).2) →
                              J_759 ((there_310 ++ ([(ix proof_6 x_315).2])), decide ((((ix proof_6 x_315).2).length : Int) = 0)))))))))) ∧
          (¬ (x_315 < (proof_6.length : Int)) →
            Q shown_314)))

/-- sextantlaw9.lives: what is to be shown. -/
def V_lives  (Q : Bool → Prop) : Prop :=
  V_Checked 2 ([[1, 2], [1, (-2)], [(-1), 2], [(-1), (-2)]]) ([(false, [1]), (false, ([] : List Int))]) fun r_48 =>
    V_Checked 2 ([[1, 2], [1, (-2)], [(-1), 2], [(-1), (-2)]]) ([(false, ([] : List Int))]) fun r_60 =>
      Q (decide ((r_48 = true) ∧ ((!r_60) = true)))

/-- sextantlaw9.SatProofs: what is to be shown. -/
def V_SatProofs (n_1 : Int) (clauses_3 : List (List Int)) (proof_6 : List (Bool × List Int)) (Q : Bool → Prop) : Prop :=
  V_copied clauses_3 fun r_9 =>
    V_Checked n_1 r_9 proof_6 fun r_17 =>
      V_refChecked n_1 clauses_3 proof_6 fun r_21 =>
        V_sameClauses r_9 clauses_3 fun r_24 =>
          Q (decide (((r_17 == r_21) = true) ∧ (r_24 = true)))

/-- sextantlaw9.SatShown: what is to be shown. -/
def V_SatShown (n_1 : Int) (clauses_3 : List (List Int)) (proof_6 : List (Bool × List Int)) (model_9 : List Bool) (Q : Bool → Prop) : Prop :=
  V_lives  fun r_12 =>
    ((!r_12) = true →
      Q false) ∧
    ((!r_12) = false →
      V_Checked n_1 clauses_3 proof_6 fun r_14 =>
        V_Models clauses_3 model_9 fun r_16 =>
          (Len model_9 →
          Q (decide ((((!r_14) = true) ∨ ((!r_16) = true)) ∨ ((model_9.length : Int) ≠ n_1)))))

end Go.Vc
