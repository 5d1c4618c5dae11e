/- For each function: what is to be shown of plain data so that it does its work. Printed by program. -/
import Derived.Test.YtdflojjpjklbfaaDoorBox
import Derived.Test.YtdflojjpjklbfaaDoorTold
set_option linter.unusedVariables false
namespace Go.Vc
/-- sextantsame.Ints: what is to be shown. -/
def V_sameInts (a_1 : List Int) (b_4 : List Int) (Q : Bool → Prop) : Prop :=
  (Len a_1 →
  (Len b_4 →
  ((a_1.length : Int) ≠ (b_4.length : Int) →
    Q false) ∧
  (¬ ((a_1.length : Int) ≠ (b_4.length : Int)) →
    VLoop (σ := Int) 0 fun i_25 xnext_45 =>
      (Len a_1 →
      (i_25 < (a_1.length : Int) →
        In i_25 a_1 ∧
        (I64 (ix a_1 i_25) →
        In i_25 b_4 ∧
        (I64 (ix b_4 i_25) →
        ((ix a_1 i_25) ≠ (ix b_4 i_25) →
          Q false) ∧
        (¬ ((ix a_1 i_25) ≠ (ix b_4 i_25)) →
          I64 (i_25 + 1) ∧
          xnext_45 (i_25 + 1))))) ∧
      (¬ (i_25 < (a_1.length : Int)) →
        Q true)))))

/-- sextantref9.size: what is to be shown. -/
def V_size (l_1 : Int) (Q : Int → Prop) : Prop :=
  (l_1 < 0 →
    Q (wneg l_1)) ∧
  (¬ (l_1 < 0) →
    Q l_1)

/-- sextantref9.Literal: what is to be shown. -/
def V_Literal (n_1 : Int) (l_3 : Int) (Q : Bool → Prop) : Prop :=
  VMeet (σ := Bool) (fun x_7 =>
      Q x_7) fun J_8 =>
    (l_3 ≠ 0 →
      ((wneg n_1) ≤ l_3 →
        J_8 (decide (l_3 ≤ n_1))) ∧
      (¬ ((wneg n_1) ≤ l_3) →
        J_8 false)) ∧
    (¬ (l_3 ≠ 0) →
      J_8 false)

/-- sextantref9.literals: what is to be shown. -/
def V_refLiterals (n_1 : Int) (l_3 : List Int) (Q : Bool → Prop) : Prop :=
  VLoop (σ := Int) 0 fun i_18 xnext_34 =>
    (Len l_3 →
    (i_18 < (l_3.length : Int) →
      In i_18 l_3 ∧
      (I64 (ix l_3 i_18) →
      V_Literal n_1 (ix l_3 i_18) fun r_42 =>
        ((!r_42) = true →
          Q false) ∧
        ((!r_42) = false →
          I64 (i_18 + 1) ∧
          xnext_34 (i_18 + 1)))) ∧
    (¬ (i_18 < (l_3.length : Int)) →
      Q true))

/-- sextantref9.Fault: what is to be shown. -/
def V_Fault (n_1 : Int) (clauses_3 : List (List Int)) (Q : Int → Prop) : Prop :=
  ((n_1 < 0) ∨ (16777216 < n_1) →
    Q 5) ∧
  (¬ ((n_1 < 0) ∨ (16777216 < n_1)) →
    (Len clauses_3 →
    (33554432 < (clauses_3.length : Int) →
      Q 6) ∧
    (¬ (33554432 < (clauses_3.length : Int)) →
      VLoop (σ := Int) 0 fun i_19 xnext_34 =>
        (Len clauses_3 →
        (i_19 < (clauses_3.length : Int) →
          In i_19 clauses_3 ∧
          V_refLiterals n_1 (ix clauses_3 i_19) fun r_41 =>
            ((!r_41) = true →
              Q 5) ∧
            ((!r_41) = false →
              I64 (i_19 + 1) ∧
              xnext_34 (i_19 + 1))) ∧
        (¬ (i_19 < (clauses_3.length : Int)) →
          Q 0)))))

/-- sextantref9.set: what is to be shown. -/
def V_refSet (val_1 : List Int) (l_6 : Int) (Q : Bool → (List Int) → Prop) : Prop :=
  VMeet (σ := Int) (fun v_9 =>
      V_size l_6 fun r_14 =>
        In r_14 val_1 ∧
        (I64 (ix val_1 r_14) →
        I64 (-v_9) ∧
        ((ix val_1 r_14) = (-v_9) →
          Q false val_1) ∧
        (¬ ((ix val_1 r_14) = (-v_9)) →
          In r_14 val_1 ∧
          Q true (val_1.set r_14.toNat v_9)))) fun J_11 =>
    (l_6 < 0 →
      J_11 (-1)) ∧
    (¬ (l_6 < 0) →
      J_11 1)

/-- sextantref9.unit: what is to be shown. -/
def V_refUnit (val_1 : List Int) (c_4 : List Int) (Q : Int → Int → Prop) : Prop :=
  VLoop (σ := Int × Int) (0, 0) fun (xopen_140, i_142) xnext_279 =>
    (Len c_4 →
    (i_142 < (c_4.length : Int) →
      VMeet (σ := Int) (fun xopen_344 =>
          I64 (i_142 + 1) ∧
          xnext_279 (xopen_344, (i_142 + 1))) fun J_346 =>
        In i_142 c_4 ∧
        (I64 (ix c_4 i_142) →
        V_size (ix c_4 i_142) fun r_354 =>
          In r_354 val_1 ∧
          (I64 (ix val_1 r_354) →
          VMeet (σ := Int) (fun v_371 =>
              (0 < v_371 →
                Q 0 2) ∧
              (¬ (0 < v_371) →
                VMeet (σ := Bool) (fun x_391 =>
                    (x_391 = true →
                      Q 0 2) ∧
                    (x_391 = false →
                      (v_371 = 0 →
                        In i_142 c_4 ∧
                        (I64 (ix c_4 i_142) →
                        J_346 (ix c_4 i_142))) ∧
                      (¬ (v_371 = 0) →
                        J_346 xopen_140))) fun J_392 =>
                  (v_371 = 0 →
                    (xopen_140 ≠ 0 →
                      In i_142 c_4 ∧
                      (I64 (ix c_4 i_142) →
                      J_392 (decide ((ix c_4 i_142) ≠ xopen_140)))) ∧
                    (¬ (xopen_140 ≠ 0) →
                      J_392 false)) ∧
                  (¬ (v_371 = 0) →
                    J_392 false))) fun J_373 =>
            In i_142 c_4 ∧
            (I64 (ix c_4 i_142) →
            ((ix c_4 i_142) < 0 →
              I64 (-(ix val_1 r_354)) ∧
              J_373 (-(ix val_1 r_354))) ∧
            (¬ ((ix c_4 i_142) < 0) →
              J_373 (ix val_1 r_354)))))) ∧
    (¬ (i_142 < (c_4.length : Int)) →
      (xopen_140 = 0 →
        Q 0 0) ∧
      (¬ (xopen_140 = 0) →
        Q xopen_140 1)))

/-- sextantref9.Follow: what is to be shown. -/
def V_refFollow (n_1 : Int) (clauses_3 : List (List Int)) (given_6 : List Int) (Q : (List Int) → Bool → Prop) : Prop :=
  I64 (n_1 + 1) ∧
  Made (n_1 + 1) 8 ∧
  VLoop (σ := (List Int) × Int) ((List.replicate (n_1 + 1).toNat 0), 0) fun (val_33, i_37) xnext_57 =>
    (Len given_6 →
    (i_37 < (given_6.length : Int) →
      In i_37 given_6 ∧
      (I64 (ix given_6 i_37) →
      V_refSet val_33 (ix given_6 i_37) fun r_65 c_66 =>
        ((!r_65) = true →
          Q ([] : List Int) false) ∧
        ((!r_65) = false →
          I64 (i_37 + 1) ∧
          xnext_57 (c_66, (i_37 + 1))))) ∧
    (¬ (i_37 < (given_6.length : Int)) →
      VLoop (σ := (List Int)) val_33 fun val_246 xnext_424 =>
        VLoop (σ := (List Int) × Bool × Int) (val_246, false, 0) fun (val_479, more_483, i_484) xnext_541 =>
          (Len clauses_3 →
          (i_484 < (clauses_3.length : Int) →
            VMeet (σ := (List Int) × Bool) (fun (val_565, more_569) =>
                I64 (i_484 + 1) ∧
                xnext_541 (val_565, more_569, (i_484 + 1))) fun J_570 =>
              In i_484 clauses_3 ∧
              V_refUnit val_479 (ix clauses_3 i_484) fun r_578 r_580 =>
                (r_580 = 0 →
                  Q ([] : List Int) false) ∧
                (¬ (r_580 = 0) →
                  (r_580 = 1 →
                    V_refSet val_479 r_578 fun r_586 c_587 =>
                      J_570 (c_587, true)) ∧
                  (¬ (r_580 = 1) →
                    J_570 (val_479, more_483)))) ∧
          (¬ (i_484 < (clauses_3.length : Int)) →
            ((!more_483) = true →
              Q val_479 true) ∧
            ((!more_483) = false →
              xnext_424 val_479)))))

/-- sextantlaw9.copied: what is to be shown. -/
def V_copied (l_1 : List (List Int)) (Q : (List (List Int)) → Prop) : Prop :=
  VLoop (σ := (List (List Int)) × Int) (([] : List (List Int)), 0) fun (out_69, i_73) xnext_106 =>
    (Len l_1 →
    (i_73 < (l_1.length : Int) →
      In i_73 l_1 ∧
      Room (([] : List Int).length + (ix l_1 i_73).length) 8 ∧
      Room (out_69.length + ([(ix l_1 i_73)]).length) 24 ∧
      I64 (i_73 + 1) ∧
      xnext_106 ((out_69 ++ ([(ix l_1 i_73)])), (i_73 + 1))) ∧
    (¬ (i_73 < (l_1.length : Int)) →
      Q out_69))

/-- sextantlaw9.sameClauses: what is to be shown. -/
def V_sameClauses (a_1 : List (List Int)) (b_4 : List (List Int)) (Q : Bool → Prop) : Prop :=
  (Len a_1 →
  (Len b_4 →
  ((a_1.length : Int) ≠ (b_4.length : Int) →
    Q false) ∧
  (¬ ((a_1.length : Int) ≠ (b_4.length : Int)) →
    VLoop (σ := Int) 0 fun i_26 xnext_47 =>
      (Len a_1 →
      (i_26 < (a_1.length : Int) →
        In i_26 a_1 ∧
        In i_26 b_4 ∧
        ∃ (r_59 : Bool), V_sameInts (ix a_1 i_26) (ix b_4 i_26) (fun y0 => y0 = r_59) ∧ 
        ((!r_59) = true →
          Q false) ∧
        ((!r_59) = false →
          I64 (i_26 + 1) ∧
          xnext_47 (i_26 + 1))) ∧
      (¬ (i_26 < (a_1.length : Int)) →
        Q true)))))

/-- sat.valid$1: what is to be shown. -/
def V_valid1 (l_1 : Int) (c_3_6 : Int) (Q : Bool → Prop) : Prop :=
  VMeet (σ := Bool) (fun x_11 =>
      Q x_11) fun J_12 =>
    (l_1 = 0 →
      J_12 true) ∧
    (¬ (l_1 = 0) →
      (c_3_6 < l_1 →
        J_12 true) ∧
      (¬ (c_3_6 < l_1) →
        I64 (-c_3_6) ∧
        J_12 (decide (l_1 < (-c_3_6)))))

/-- slices.IndexFunc[[]int,int]: what is to be shown. -/
def V_IndexFuncI (s_1 : List Int) (G1 : Int → (Bool → Prop) → Prop) (Q : Int → Prop) : Prop :=
  (Len s_1 →
  VLoop (σ := Int) 0 fun x_17 xnext_31 =>
    (x_17 < (s_1.length : Int) →
      In x_17 s_1 ∧
      (I64 (ix s_1 x_17) →
      G1 (ix s_1 x_17) fun r_38 =>
        (r_38 = true →
          Q x_17) ∧
        (r_38 = false →
          I64 (x_17 + 1) ∧
          xnext_31 (x_17 + 1)))) ∧
    (¬ (x_17 < (s_1.length : Int)) →
      Q (-1)))

/-- slices.ContainsFunc[[]int,int]: what is to be shown. -/
def V_ContainsFuncI (s_1 : List Int) (G1 : Int → (Bool → Prop) → Prop) (Q : Bool → Prop) : Prop :=
  V_IndexFuncI s_1 G1 fun r_6 =>
    Q (decide (0 ≤ r_6))

/-- sat.valid: what is to be shown. -/
def V_valid (n_1 : Int) (clause_3 : List Int) (Q : Bool → Prop) : Prop :=
  V_ContainsFuncI clause_3 (fun x1 K => V_valid1 x1 n_1 K) fun r_8 =>
    Q (!r_8)

/-- sat.checked$1: what is to be shown. -/
def V_checked1 (c_1 : List Int) (c_4_7 : Int) (Q : Bool → Prop) : Prop :=
  V_valid c_4_7 c_1 fun r_9 =>
    Q (!r_9)

/-- slices.IndexFunc[[][]int,[]int]: what is to be shown. -/
def V_IndexFuncL (s_1 : List (List Int)) (G1 : (List Int) → (Bool → Prop) → Prop) (Q : Int → Prop) : Prop :=
  (Len s_1 →
  VLoop (σ := Int) 0 fun x_16 xnext_29 =>
    (x_16 < (s_1.length : Int) →
      In x_16 s_1 ∧
      G1 (ix s_1 x_16) fun r_35 =>
        (r_35 = true →
          Q x_16) ∧
        (r_35 = false →
          I64 (x_16 + 1) ∧
          xnext_29 (x_16 + 1))) ∧
    (¬ (x_16 < (s_1.length : Int)) →
      Q (-1)))

/-- slices.ContainsFunc[[][]int,[]int]: what is to be shown. -/
def V_ContainsFuncL (s_1 : List (List Int)) (G1 : (List Int) → (Bool → Prop) → Prop) (Q : Bool → Prop) : Prop :=
  V_IndexFuncL s_1 G1 fun r_6 =>
    Q (decide (0 ≤ r_6))

/-- sat.checked: what is to be shown. -/
def V_checked (n_1 : Int) (clauses_3 : List (List Int)) (more_6 : List Int) (Q : (Option Int) → Prop) : Prop :=
  VMeet (σ := Bool) (fun x_12 =>
      (x_12 = true →
        Q (some 5)) ∧
      (x_12 = false →
        (Len clauses_3 →
        (33554432 < (clauses_3.length : Int) →
          Q (some 6)) ∧
        (¬ (33554432 < (clauses_3.length : Int)) →
          VMeet (σ := Bool) (fun x_22 =>
              (x_22 = true →
                Q (some 5)) ∧
              (x_22 = false →
                Q none)) fun J_23 =>
            V_ContainsFuncL clauses_3 (fun x1 K => V_checked1 x1 n_1 K) fun r_25 =>
              (r_25 = true →
                J_23 true) ∧
              (r_25 = false →
                V_valid n_1 more_6 fun r_28 =>
                  J_23 (!r_28)))))) fun J_13 =>
    (n_1 < 0 →
      J_13 true) ∧
    (¬ (n_1 < 0) →
      J_13 (decide (16777216 < n_1)))

/-- sat.follow$1: what is to be shown. -/
def V_followSet (l_1 : Int) (c_3_6 : List Int) (Q : Bool → (List Int) → Prop) : Prop :=
  I64 (-l_1) ∧
  VMeet (σ := Int) (fun x_13 =>
      In (max l_1 (-l_1)) c_3_6 ∧
      (I64 (ix c_3_6 (max l_1 (-l_1))) →
      In (max l_1 (-l_1)) c_3_6 ∧
      I64 (-x_13) ∧
      Q (decide ((ix c_3_6 (max l_1 (-l_1))) ≠ (-x_13))) (c_3_6.set (max l_1 (-l_1)).toNat x_13))) fun J_15 =>
    (l_1 < 0 →
      J_15 (-1)) ∧
    (¬ (l_1 < 0) →
      J_15 1)

/-- sat.follow$2: what is to be shown. -/
def V_followOf (l_1 : Int) (c_3_6 : List Int) (Q : Int → Prop) : Prop :=
  (l_1 < 0 →
    I64 (-l_1) ∧
    In (-l_1) c_3_6 ∧
    (I64 (ix c_3_6 (-l_1)) →
    I64 (-(ix c_3_6 (-l_1))) ∧
    Q (-(ix c_3_6 (-l_1))))) ∧
  (¬ (l_1 < 0) →
    In l_1 c_3_6 ∧
    (I64 (ix c_3_6 l_1) →
    Q (ix c_3_6 l_1)))

/-- sat.follow: what is to be shown. -/
def V_follow (n_1 : Int) (clauses_3 : List (List Int)) (given_6 : List Int) (Q : (List Int) → Bool → Prop) : Prop :=
  I64 (n_1 + 1) ∧
  Made (n_1 + 1) 8 ∧
  (Len given_6 →
  VLoop (σ := (List Int) × Int) ((List.replicate (n_1 + 1).toNat 0), 0) fun (c_37, x_41) xnext_61 =>
    (x_41 < (given_6.length : Int) →
      In x_41 given_6 ∧
      (I64 (ix given_6 x_41) →
      V_followSet (ix given_6 x_41) c_37 fun r_68 c_69 =>
        ((!r_68) = true →
          Q ([] : List Int) false) ∧
        ((!r_68) = false →
          I64 (x_41 + 1) ∧
          xnext_61 (c_69, (x_41 + 1))))) ∧
    (¬ (x_41 < (given_6.length : Int)) →
      VLoop (σ := (List Int) × Bool) (c_37, true) fun (c_1513, again_1517) xnext_2956 =>
        (again_1517 = true →
          (Len clauses_3 →
          VLoop (σ := (List Int) × Bool × Int) (c_1513, false, 0) fun (c_3433, again_3437, x_3438) xnext_3916 =>
            (x_3438 < (clauses_3.length : Int) →
              VMeet (σ := (List Int) × Bool) (fun (c_4150, again_4154) =>
                  I64 (x_3438 + 1) ∧
                  xnext_3916 (c_4150, again_4154, (x_3438 + 1))) fun J_4155 =>
                In x_3438 clauses_3 ∧
                (Len (ix clauses_3 x_3438) →
                VLoop (σ := Int × Int) (0, 0) fun (left_4233, x_4235) xnext_4309 =>
                  (x_4235 < ((ix clauses_3 x_3438).length : Int) →
                    VMeet (σ := Int) (fun left_4342 =>
                        I64 (x_4235 + 1) ∧
                        xnext_4309 (left_4342, (x_4235 + 1))) fun J_4344 =>
                      In x_4235 (ix clauses_3 x_3438) ∧
                      (I64 (ix (ix clauses_3 x_3438) x_4235) →
                      VMeet (σ := Bool) (fun x_4361 =>
                          (x_4361 = true →
                            J_4155 (c_3433, again_3437)) ∧
                          (x_4361 = false →
                            V_followOf (ix (ix clauses_3 x_3438) x_4235) c_3433 fun r_4373 =>
                              (r_4373 = 0 →
                                J_4344 (ix (ix clauses_3 x_3438) x_4235)) ∧
                              (¬ (r_4373 = 0) →
                                J_4344 left_4233))) fun J_4362 =>
                        V_followOf (ix (ix clauses_3 x_3438) x_4235) c_3433 fun r_4364 =>
                          (0 < r_4364 →
                            J_4362 (decide (0 < r_4364))) ∧
                          (¬ (0 < r_4364) →
                            V_followOf (ix (ix clauses_3 x_3438) x_4235) c_3433 fun r_4367 =>
                              (r_4367 = 0 →
                                (left_4233 ≠ 0 →
                                  J_4362 (decide (left_4233 ≠ (ix (ix clauses_3 x_3438) x_4235)))) ∧
                                (¬ (left_4233 ≠ 0) →
                                  J_4362 false)) ∧
                              (¬ (r_4367 = 0) →
                                J_4362 false)))) ∧
                  (¬ (x_4235 < ((ix clauses_3 x_3438).length : Int)) →
                    (left_4233 = 0 →
                      Q ([] : List Int) false) ∧
                    (¬ (left_4233 = 0) →
                      V_followSet left_4233 c_3433 fun r_4380 c_4381 =>
                        J_4155 (c_4381, true))))) ∧
            (¬ (x_3438 < (clauses_3.length : Int)) →
              xnext_2956 (c_3433, again_3437)))) ∧
        (again_1517 = false →
          VLoop (σ := (List Int) × Int) (([] : List Int), 1) fun (out_4449, v_4453) xnext_4512 =>
            (v_4453 ≤ n_1 →
              VMeet (σ := (List Int)) (fun out_4537 =>
                  I64 (v_4453 + 1) ∧
                  xnext_4512 (out_4537, (v_4453 + 1))) fun J_4541 =>
                In v_4453 c_1513 ∧
                (I64 (ix c_1513 v_4453) →
                ((ix c_1513 v_4453) ≠ 0 →
                  In v_4453 c_1513 ∧
                  (I64 (ix c_1513 v_4453) →
                  I64 (v_4453 * (ix c_1513 v_4453)) ∧
                  Room (out_4449.length + ([(v_4453 * (ix c_1513 v_4453))]).length) 8 ∧
                  J_4541 (out_4449 ++ ([(v_4453 * (ix c_1513 v_4453))])))) ∧
                (¬ ((ix c_1513 v_4453) ≠ 0) →
                  J_4541 out_4449))) ∧
            (¬ (v_4453 ≤ n_1) →
              Q out_4449 true))))

/-- sat.Follow: what is to be shown. -/
def V_Follow (n_1 : Int) (clauses_3 : List (List Int)) (given_6 : List Int) (Q : (List Int) → Bool → (Option Int) → Prop) : Prop :=
  V_checked n_1 clauses_3 given_6 fun r_10 =>
    (r_10 ≠ none →
      Q ([] : List Int) false r_10) ∧
    (¬ (r_10 ≠ none) →
      V_follow n_1 clauses_3 given_6 fun r_13 r_18 =>
        Q r_13 r_18 none)

/-- sextantref9.True: what is to be shown. -/
def V_refTrue (val_1 : List Int) (Q : (List Int) → Prop) : Prop :=
  VLoop (σ := (List Int) × Int) (([] : List Int), 1) fun (l_63, i_67) xnext_127 =>
    (Len val_1 →
    (i_67 < (val_1.length : Int) →
      VMeet (σ := (List Int)) (fun l_153 =>
          I64 (i_67 + 1) ∧
          xnext_127 (l_153, (i_67 + 1))) fun J_157 =>
        In i_67 val_1 ∧
        (I64 (ix val_1 i_67) →
        ((ix val_1 i_67) ≠ 0 →
          In i_67 val_1 ∧
          (I64 (ix val_1 i_67) →
          I64 ((ix val_1 i_67) * i_67) ∧
          Room (l_63.length + ([((ix val_1 i_67) * i_67)]).length) 8 ∧
          J_157 (l_63 ++ ([((ix val_1 i_67) * i_67)])))) ∧
        (¬ ((ix val_1 i_67) ≠ 0) →
          J_157 l_63))) ∧
    (¬ (i_67 < (val_1.length : Int)) →
      Q l_63))

/-- sextantlaw9.literals: what is to be shown. -/
def V_lawLiterals (n_1 : Int) (l_3 : List Int) (Q : Bool → Prop) : Prop :=
  VLoop (σ := Int) 0 fun i_18 xnext_34 =>
    (Len l_3 →
    (i_18 < (l_3.length : Int) →
      In i_18 l_3 ∧
      (I64 (ix l_3 i_18) →
      V_Literal n_1 (ix l_3 i_18) fun r_42 =>
        ((!r_42) = true →
          Q false) ∧
        ((!r_42) = false →
          I64 (i_18 + 1) ∧
          xnext_34 (i_18 + 1)))) ∧
    (¬ (i_18 < (l_3.length : Int)) →
      Q true))

/-- plain.Told: what is to be shown. -/
def V_Told (err_1 : Option Int) (Q : Int → Prop) : Prop :=
  (err_1 = none →
    Q 0) ∧
  (¬ (err_1 = none) →
    V_As err_1 0 fun r_4 c_5 =>
      (r_4 = true →
        Q c_5) ∧
      (r_4 = false →
        Q (-1)))

/-- sextantsame.Error: what is to be shown. -/
def V_Error (err_1 : Option Int) (e_2 : Int) (Q : Bool → Prop) : Prop :=
  V_Told err_1 fun r_4 =>
    Q (decide (r_4 = e_2))

/-- sextantlaw9.SatFollows: what is to be shown. -/
def V_SatFollows (n_1 : Int) (clauses_3 : List (List Int)) (given_6 : List Int) (Q : Bool → Prop) : Prop :=
  V_copied clauses_3 fun r_9 =>
    Room (([] : List Int).length + given_6.length) 8 ∧
    V_Follow n_1 r_9 given_6 fun r_27 r_32 r_33 =>
      V_Fault n_1 clauses_3 fun r_38 =>
        V_lawLiterals n_1 given_6 fun r_41 =>
          VMeet (σ := Int) (fun f_45 =>
              V_Error r_33 f_45 fun r_51 =>
                V_sameClauses r_9 clauses_3 fun r_54 =>
                  V_sameInts given_6 given_6 fun r_59 =>
                    ((((!r_51) = true) ∨ ((!r_54) = true)) ∨ ((!r_59) = true) →
                      Q false) ∧
                    (¬ ((((!r_51) = true) ∨ ((!r_54) = true)) ∨ ((!r_59) = true)) →
                      (f_45 ≠ 0 →
                        (Len r_27 →
                        Q (decide (((r_27.length : Int) = 0) ∧ ((!r_32) = true))))) ∧
                      (¬ (f_45 ≠ 0) →
                        V_refFollow n_1 clauses_3 given_6 fun r_68 r_73 =>
                          VMeet (σ := (List Int)) (fun w_87 =>
                              V_sameInts r_27 w_87 fun r_105 =>
                                Q (decide (((r_32 == r_73) = true) ∧ (r_105 = true)))) fun J_91 =>
                            (r_73 = true →
                              V_refTrue r_68 fun r_94 =>
                                J_91 r_94) ∧
                            (r_73 = false →
                              J_91 ([] : List Int))))) fun J_47 =>
            ((r_38 = 0) ∧ ((!r_41) = true) →
              J_47 5) ∧
            (¬ ((r_38 = 0) ∧ ((!r_41) = true)) →
              J_47 r_38)

end Go.Vc
