/- For each function: what is to be shown of plain data so that it does its work. Printed by program. -/
import Derived.Test.YthndbddongefoaaMem
set_option linter.unusedVariables false
namespace Go.Vc
/-- sextantsame.Ints: what is to be shown. -/
def V_sameInts (a_1 : List Int) (b_4 : List Int) (Q : Bool → Prop) : Prop :=
  (Len a_1 →
  (Len b_4 →
  ((a_1.length : Int) ≠ (b_4.length : Int) →
    Q false) ∧
  (¬ ((a_1.length : Int) ≠ (b_4.length : Int)) →
    VLoop (σ := Int) 0 fun i_25 xnext_45 =>
      (Len a_1 →
      (i_25 < (a_1.length : Int) →
        In i_25 a_1 ∧
        (I64 (ix a_1 i_25) →
        In i_25 b_4 ∧
        (I64 (ix b_4 i_25) →
        ((ix a_1 i_25) ≠ (ix b_4 i_25) →
          Q false) ∧
        (¬ ((ix a_1 i_25) ≠ (ix b_4 i_25)) →
          I64 (i_25 + 1) ∧
          xnext_45 (i_25 + 1))))) ∧
      (¬ (i_25 < (a_1.length : Int)) →
        Q true)))))

/-- refine.Compose: what is to be shown. -/
def V_Compose (f_1 : List Int) (g_4 : List Int) (Q : (List Int) → Prop) : Prop :=
  (Len f_1 →
  Made (f_1.length : Int) 8 ∧
  (Len f_1 →
  VLoop (σ := (List Int) × Int) ((List.replicate (f_1.length : Int).toNat 0), 0) fun (out_77, x_81) xnext_146 =>
    (x_81 < (f_1.length : Int) →
      VMeet (σ := (List Int)) (fun out_174 =>
          I64 (x_81 + 1) ∧
          xnext_146 (out_174, (x_81 + 1))) fun J_178 =>
        In x_81 f_1 ∧
        (I64 (ix f_1 x_81) →
        In x_81 out_77 ∧
        (Len g_4 →
        ((0 ≤ (ix f_1 x_81)) ∧ ((ix f_1 x_81) < (g_4.length : Int)) →
          In (ix f_1 x_81) g_4 ∧
          (I64 (ix g_4 (ix f_1 x_81)) →
          In x_81 (out_77.set x_81.toNat (-1)) ∧
          J_178 ((out_77.set x_81.toNat (-1)).set x_81.toNat (ix g_4 (ix f_1 x_81))))) ∧
        (¬ ((0 ≤ (ix f_1 x_81)) ∧ ((ix f_1 x_81) < (g_4.length : Int))) →
          J_178 (out_77.set x_81.toNat (-1)))))) ∧
    (¬ (x_81 < (f_1.length : Int)) →
      Q out_77)))

/-- sextantref11.Compose: what is to be shown. -/
def V_refCompose (f_1 : List Int) (g_4 : List Int) (Q : (List Int) → Prop) : Prop :=
  VLoop (σ := (List Int) × Int) (([] : List Int), 0) fun (out_114, i_118) xnext_226 =>
    (Len f_1 →
    (i_118 < (f_1.length : Int) →
      VMeet (σ := Int) (fun v_272 =>
          Room (out_114.length + ([v_272]).length) 8 ∧
          I64 (i_118 + 1) ∧
          xnext_226 ((out_114 ++ ([v_272])), (i_118 + 1))) fun J_274 =>
        VMeet (σ := Bool) (fun x_290 =>
            (x_290 = true →
              In i_118 f_1 ∧
              (I64 (ix f_1 i_118) →
              In (ix f_1 i_118) g_4 ∧
              (I64 (ix g_4 (ix f_1 i_118)) →
              J_274 (ix g_4 (ix f_1 i_118))))) ∧
            (x_290 = false →
              J_274 (-1))) fun J_291 =>
          In i_118 f_1 ∧
          (I64 (ix f_1 i_118) →
          (0 ≤ (ix f_1 i_118) →
            In i_118 f_1 ∧
            (I64 (ix f_1 i_118) →
            (Len g_4 →
            J_291 (decide ((ix f_1 i_118) < (g_4.length : Int)))))) ∧
          (¬ (0 ≤ (ix f_1 i_118)) →
            J_291 false))) ∧
    (¬ (i_118 < (f_1.length : Int)) →
      Q out_114))

/-- sextantlaw11.RefineComposes: what is to be shown. -/
def V_RefineComposes (f_1 : List Int) (g_4 : List Int) (Q : Bool → Prop) : Prop :=
  Room (([] : List Int).length + f_1.length) 8 ∧
  Room (([] : List Int).length + g_4.length) 8 ∧
  V_Compose f_1 g_4 fun r_27 =>
    V_refCompose f_1 g_4 fun r_36 =>
      V_sameInts r_27 r_36 fun r_44 =>
        V_sameInts f_1 f_1 fun r_50 =>
          V_sameInts g_4 g_4 fun r_55 =>
            Q (decide (((r_44 = true) ∧ (r_50 = true)) ∧ (r_55 = true)))

/-- sextantlaw1.Names: what is to be shown. -/
def V_Names  (Q : Bool → Prop) : Prop :=
  VLoop (σ := Int) 0 fun i_15 xnext_29 =>
    (Len ([0, 1, 2, 3, 4, 5, 6, 7, 8]) →
    (i_15 < (([0, 1, 2, 3, 4, 5, 6, 7, 8]).length : Int) →
      In i_15 ([0, 1, 2, 3, 4, 5, 6, 7, 8]) ∧
      (I64 (ix ([0, 1, 2, 3, 4, 5, 6, 7, 8]) i_15) →
      ((ix ([0, 1, 2, 3, 4, 5, 6, 7, 8]) i_15) ≠ i_15 →
        Q false) ∧
      (¬ ((ix ([0, 1, 2, 3, 4, 5, 6, 7, 8]) i_15) ≠ i_15) →
        I64 (i_15 + 1) ∧
        xnext_29 (i_15 + 1)))) ∧
    (¬ (i_15 < (([0, 1, 2, 3, 4, 5, 6, 7, 8]).length : Int)) →
      Q true))

end Go.Vc
