/- For each function: what is to be shown of plain data so that it does its work. Printed by program. -/
import Derived.Test.YtceipmldngeagaaDoorMore
import Derived.Test.YtceipmldngeagaaDoorTold
set_option linter.unusedVariables false
namespace Go.Vc
/-- bdd.New: what is to be shown. -/
def V_New (n_1 : Int) (Q : (Option ((List (Int × Int × Int)) × (List Int) × (List ((Int × Int × Int) × Int)) × (List Int) × (List Int) × (List ((Int × Int × Int) × Int)))) → (Option Int) → Prop) : Prop :=
  ((n_1 < 0) ∨ (24 < n_1) →
    Q none (some 5)) ∧
  (¬ ((n_1 < 0) ∨ (24 < n_1)) →
    Made 2 24 ∧
    VLoop (σ := (List Int) × (List Int) × Int) (([] : List Int), ([] : List Int), 0) fun (c_344, c_349, x_353) xnext_673 =>
      (x_353 < n_1 →
        VMeet (σ := (List Int) × (List Int)) (fun (c_826, c_831) =>
            I64 (x_353 + 1) ∧
            xnext_673 (c_826, c_831, (x_353 + 1))) fun J_835 =>
          (Room (c_344.length + ([x_353]).length) 8 ∧
          Room (c_349.length + ([x_353]).length) 8 ∧
          J_835 ((c_344 ++ ([x_353])), (c_349 ++ ([x_353])))) ∧
          (Room (c_344.length + ([x_353]).length) 8 ∧
          Room (c_349.length + ([x_353]).length) 8 ∧
          J_835 ((c_344 ++ ([x_353])), (c_349 ++ ([x_353])))) ∧
          Room (c_344.length + ([x_353]).length) 8 ∧
          Room (c_349.length + ([x_353]).length) 8 ∧
          J_835 ((c_344 ++ ([x_353])), (c_349 ++ ([x_353])))) ∧
      (¬ (x_353 < n_1) →
        In 0 (List.replicate (2 : Int).toNat (0, 0, 0)) ∧
        In 1 ((List.replicate (2 : Int).toNat (0, 0, 0)).set (0 : Int).toNat (n_1, (ix (List.replicate (2 : Int).toNat (0, 0, 0)) 0).2.1, (ix (List.replicate (2 : Int).toNat (0, 0, 0)) 0).2.2)) ∧
        Q (some ((((List.replicate (2 : Int).toNat (0, 0, 0)).set (0 : Int).toNat (n_1, (ix (List.replicate (2 : Int).toNat (0, 0, 0)) 0).2.1, (ix (List.replicate (2 : Int).toNat (0, 0, 0)) 0).2.2)).set (1 : Int).toNat (n_1, (ix ((List.replicate (2 : Int).toNat (0, 0, 0)).set (0 : Int).toNat (n_1, (ix (List.replicate (2 : Int).toNat (0, 0, 0)) 0).2.1, (ix (List.replicate (2 : Int).toNat (0, 0, 0)) 0).2.2)) 1).2.1, (ix ((List.replicate (2 : Int).toNat (0, 0, 0)).set (0 : Int).toNat (n_1, (ix (List.replicate (2 : Int).toNat (0, 0, 0)) 0).2.1, (ix (List.replicate (2 : Int).toNat (0, 0, 0)) 0).2.2)) 1).2.2)), ([] : List Int), ([] : List ((Int × Int × Int) × Int)), c_344, c_349, ([] : List ((Int × Int × Int) × Int)))) none))

/-- (*bdd.Table).False: what is to be shown. -/
def V_False_ (nodes_4 : List (Int × Int × Int)) (free_9 : List Int) (xby_14 : List ((Int × Int × Int) × Int)) (order_19 : List Int) (level_24 : List Int) (memo_29 : List ((Int × Int × Int) × Int)) (Q : Int → Prop) : Prop :=
  Q 0

/-- (*bdd.Table).True: what is to be shown. -/
def V_True_ (nodes_4 : List (Int × Int × Int)) (free_9 : List Int) (xby_14 : List ((Int × Int × Int) × Int)) (order_19 : List Int) (level_24 : List Int) (memo_29 : List ((Int × Int × Int) × Int)) (Q : Int → Prop) : Prop :=
  Q 1

/-- (*bdd.Table).Is: what is to be shown. -/
def V_Is (nodes_4 : List (Int × Int × Int)) (free_9 : List Int) (xby_14 : List ((Int × Int × Int) × Int)) (order_19 : List Int) (level_24 : List Int) (memo_29 : List ((Int × Int × Int) × Int)) (i_34 : Int) (Q : Bool → Prop) : Prop :=
  VMeet (σ := Bool) (fun x_40 =>
      Q x_40) fun J_41 =>
    (0 ≤ i_34 →
      (Len order_19 →
      J_41 (decide (i_34 < (order_19.length : Int))))) ∧
    (¬ (0 ≤ i_34) →
      J_41 false)

/-- (*bdd.Table).make: what is to be shown. -/
def V_make (nodes_4 : List (Int × Int × Int)) (free_9 : List Int) (xby_14 : List ((Int × Int × Int) × Int)) (order_19 : List Int) (level_24 : List Int) (memo_29 : List ((Int × Int × Int) × Int)) (xat_34 : Int) (low_36 : Int) (up_38 : Int) (Q : Int → (List (Int × Int × Int)) → (List Int) → (List ((Int × Int × Int) × Int)) → Prop) : Prop :=
  (low_36 = up_38 →
    Q low_36 nodes_4 free_9 xby_14) ∧
  (¬ (low_36 = up_38) →
    (I64 (mgetD xby_14 (xat_34, low_36, up_38) 0) →
    ((mhas xby_14 (xat_34, low_36, up_38)) = true →
      Q (mgetD xby_14 (xat_34, low_36, up_38) 0) nodes_4 free_9 xby_14) ∧
    ((mhas xby_14 (xat_34, low_36, up_38)) = false →
      VMeet (σ := (List (Int × Int × Int)) × (List Int) × Int) (fun (c_108, c_113, n_117) =>
          Q n_117 c_108 c_113 (mset xby_14 (xat_34, low_36, up_38) n_117)) fun J_119 =>
        (Len free_9 →
        I64 ((free_9.length : Int) - 1) ∧
        (0 ≤ ((free_9.length : Int) - 1) →
          In ((free_9.length : Int) - 1) free_9 ∧
          (I64 (ix free_9 ((free_9.length : Int) - 1)) →
          (0 ≤ ((free_9.length : Int) - 1) ∧ ((free_9.length : Int) - 1) ≤ (free_9.length : Int)) ∧
          In (ix free_9 ((free_9.length : Int) - 1)) nodes_4 ∧
          J_119 ((nodes_4.set (ix free_9 ((free_9.length : Int) - 1)).toNat (xat_34, low_36, up_38)), (free_9.take ((free_9.length : Int) - 1).toNat), (ix free_9 ((free_9.length : Int) - 1))))) ∧
        (¬ (0 ≤ ((free_9.length : Int) - 1)) →
          (Len nodes_4 →
          Room (nodes_4.length + ([(xat_34, low_36, up_38)]).length) 24 ∧
          J_119 ((nodes_4 ++ ([(xat_34, low_36, up_38)])), free_9, (nodes_4.length : Int))))))))

/-- (*bdd.Table).Var: what is to be shown. -/
def V_Var (nodes_4 : List (Int × Int × Int)) (free_9 : List Int) (xby_14 : List ((Int × Int × Int) × Int)) (order_19 : List Int) (level_24 : List Int) (memo_29 : List ((Int × Int × Int) × Int)) (i_34 : Int) (Q : Int → (List (Int × Int × Int)) → (List Int) → (List ((Int × Int × Int) × Int)) → Prop) : Prop :=
  V_Is nodes_4 free_9 xby_14 order_19 level_24 memo_29 i_34 fun r_36 =>
    ((!r_36) = true →
      Q 0 nodes_4 free_9 xby_14) ∧
    ((!r_36) = false →
      V_make nodes_4 free_9 xby_14 order_19 level_24 memo_29 i_34 0 1 fun r_38 c_40 c_44 m_48 =>
        Q r_38 c_40 c_44 m_48)

/-- (*bdd.Table).depth: what is to be shown. -/
def V_depth (nodes_4 : List (Int × Int × Int)) (free_9 : List Int) (xby_14 : List ((Int × Int × Int) × Int)) (order_19 : List Int) (level_24 : List Int) (memo_29 : List ((Int × Int × Int) × Int)) (f_34 : Int) (Q : Int → Prop) : Prop :=
  (f_34 ≤ 1 →
    (Len order_19 →
    Q (order_19.length : Int))) ∧
  (¬ (f_34 ≤ 1) →
    In f_34 nodes_4 ∧
    (I64 ((ix nodes_4 f_34).1) →
    In ((ix nodes_4 f_34).1) level_24 ∧
    (I64 (ix level_24 ((ix nodes_4 f_34).1)) →
    Q (ix level_24 ((ix nodes_4 f_34).1)))))

/-- (*bdd.Table).split: what is to be shown. -/
def V_split (nodes_4 : List (Int × Int × Int)) (free_9 : List Int) (xby_14 : List ((Int × Int × Int) × Int)) (order_19 : List Int) (level_24 : List Int) (memo_29 : List ((Int × Int × Int) × Int)) (f_34 : Int) (level_36 : Int) (Q : Int → Int → Prop) : Prop :=
  V_depth nodes_4 free_9 xby_14 order_19 level_24 memo_29 f_34 fun r_38 =>
    (r_38 ≠ level_36 →
      Q f_34 f_34) ∧
    (¬ (r_38 ≠ level_36) →
      In f_34 nodes_4 ∧
      (I64 ((ix nodes_4 f_34).2.1) →
      In f_34 nodes_4 ∧
      (I64 ((ix nodes_4 f_34).2.2) →
      Q ((ix nodes_4 f_34).2.1) ((ix nodes_4 f_34).2.2))))

/-- (*bdd.Table).Ite: what is to be shown, so many calls deep. -/
def V_Ite : Nat → (List (Int × Int × Int)) → (List Int) → (List ((Int × Int × Int) × Int)) → (List Int) → (List Int) → (List ((Int × Int × Int) × Int)) → Int → Int → Int → (Int → (List (Int × Int × Int)) → (List Int) → (List ((Int × Int × Int) × Int)) → (List ((Int × Int × Int) × Int)) → Prop) → Prop
  | 0, _, _, _, _, _, _, _, _, _, _ => False
  | m0 + 1, nodes_4, free_9, xby_14, order_19, level_24, memo_29, f_34, g_36, h_38, Q =>
    ((f_34 = 1) ∨ (g_36 = h_38) →
      Q g_36 nodes_4 free_9 xby_14 memo_29) ∧
    (¬ ((f_34 = 1) ∨ (g_36 = h_38)) →
      (f_34 = 0 →
        Q h_38 nodes_4 free_9 xby_14 memo_29) ∧
      (¬ (f_34 = 0) →
        ((g_36 = 1) ∧ (h_38 = 0) →
          Q f_34 nodes_4 free_9 xby_14 memo_29) ∧
        (¬ ((g_36 = 1) ∧ (h_38 = 0)) →
          (I64 (mgetD memo_29 (f_34, g_36, h_38) 0) →
          ((mhas memo_29 (f_34, g_36, h_38)) = true →
            Q (mgetD memo_29 (f_34, g_36, h_38) 0) nodes_4 free_9 xby_14 memo_29) ∧
          ((mhas memo_29 (f_34, g_36, h_38)) = false →
            V_depth nodes_4 free_9 xby_14 order_19 level_24 memo_29 f_34 fun r_56 =>
              V_depth nodes_4 free_9 xby_14 order_19 level_24 memo_29 g_36 fun r_59 =>
                V_depth nodes_4 free_9 xby_14 order_19 level_24 memo_29 h_38 fun r_62 =>
                  V_split nodes_4 free_9 xby_14 order_19 level_24 memo_29 f_34 (min (min r_56 r_59) r_62) fun r_65 r_67 =>
                    V_split nodes_4 free_9 xby_14 order_19 level_24 memo_29 g_36 (min (min r_56 r_59) r_62) fun r_70 r_72 =>
                      V_split nodes_4 free_9 xby_14 order_19 level_24 memo_29 h_38 (min (min r_56 r_59) r_62) fun r_75 r_77 =>
                        In (min (min r_56 r_59) r_62) order_19 ∧
                        (I64 (ix order_19 (min (min r_56 r_59) r_62)) →
                        V_Ite m0 nodes_4 free_9 xby_14 order_19 level_24 memo_29 r_65 r_70 r_75 fun r_118 c_120 c_124 m_128 m_131 =>
                          V_Ite m0 c_120 c_124 m_128 order_19 level_24 m_131 r_67 r_72 r_77 fun r_137 c_139 c_143 m_147 m_150 =>
                            V_make c_139 c_143 m_147 order_19 level_24 m_150 (ix order_19 (min (min r_56 r_59) r_62)) r_118 r_137 fun r_156 c_158 c_162 m_166 =>
                              Q r_156 c_158 c_162 m_166 (mset m_150 (f_34, g_36, h_38) r_156)))))))

/-- (*bdd.Table).And: what is to be shown. -/
def V_And (nodes_4 : List (Int × Int × Int)) (free_9 : List Int) (xby_14 : List ((Int × Int × Int) × Int)) (order_19 : List Int) (level_24 : List Int) (memo_29 : List ((Int × Int × Int) × Int)) (f_34 : Int) (g_36 : Int) (Q : Int → (List (Int × Int × Int)) → (List Int) → (List ((Int × Int × Int) × Int)) → (List ((Int × Int × Int) × Int)) → Prop) : Prop :=
  ∃ mf, V_Ite mf nodes_4 free_9 xby_14 order_19 level_24 memo_29 f_34 g_36 0 fun r_38 c_40 c_44 m_48 m_51 =>
    Q r_38 c_40 c_44 m_48 m_51

/-- (*bdd.Table).Eval: what is to be shown. -/
def V_Eval (nodes_4 : List (Int × Int × Int)) (free_9 : List Int) (xby_14 : List ((Int × Int × Int) × Int)) (order_19 : List Int) (level_24 : List Int) (memo_29 : List ((Int × Int × Int) × Int)) (f_34 : Int) (xat_36 : List Bool) (Q : Bool → Prop) : Prop :=
  VLoop (σ := Int) f_34 fun f_74 xnext_113 =>
    (1 < f_74 →
      In f_74 nodes_4 ∧
      (I64 (ix nodes_4 f_74).1 →
      (I64 (ix nodes_4 f_74).2.1 →
      (I64 (ix nodes_4 f_74).2.2 →
      VMeet (σ := Bool) (fun x_136 =>
          (x_136 = true →
            xnext_113 ((ix nodes_4 f_74).2.2)) ∧
          (x_136 = false →
            xnext_113 ((ix nodes_4 f_74).2.1))) fun J_137 =>
        (Len xat_36 →
        ((ix nodes_4 f_74).1 < (xat_36.length : Int) →
          In ((ix nodes_4 f_74).1) xat_36 ∧
          J_137 (ix xat_36 ((ix nodes_4 f_74).1))) ∧
        (¬ ((ix nodes_4 f_74).1 < (xat_36.length : Int)) →
          J_137 false)))))) ∧
    (¬ (1 < f_74) →
      Q (decide (f_74 = 1)))

/-- (*bdd.Table).below: what is to be shown, so many calls deep. -/
def V_below : Nat → (List (Int × Int × Int)) → (List Int) → (List ((Int × Int × Int) × Int)) → (List Int) → (List Int) → (List ((Int × Int × Int) × Int)) → Int → (List (Int × Int)) → ((List (Int × Int)) → Prop) → Prop
  | 0, _, _, _, _, _, _, _, _, _ => False
  | m0 + 1, nodes_4, free_9, xby_14, order_19, level_24, memo_29, f_34, xin_36, Q =>
    VMeet (σ := Bool) (fun x_47 =>
        (x_47 = true →
          Q xin_36) ∧
        (x_47 = false →
          In f_34 nodes_4 ∧
          (I64 ((ix nodes_4 f_34).2.1) →
          V_below m0 nodes_4 free_9 xby_14 order_19 level_24 memo_29 ((ix nodes_4 f_34).2.1) (mset xin_36 f_34 1) fun m_66 =>
            In f_34 nodes_4 ∧
            (I64 ((ix nodes_4 f_34).2.2) →
            V_below m0 nodes_4 free_9 xby_14 order_19 level_24 memo_29 ((ix nodes_4 f_34).2.2) m_66 fun m_78 =>
              Q m_78)))) fun J_48 =>
      (f_34 ≤ 1 →
        J_48 true) ∧
      (¬ (f_34 ≤ 1) →
        (I64 (mgetD xin_36 f_34 0) →
        J_48 (decide ((mgetD xin_36 f_34 0) ≠ 0))))

/-- (*bdd.Table).all: what is to be shown. -/
def V_all (nodes_4 : List (Int × Int × Int)) (free_9 : List Int) (xby_14 : List ((Int × Int × Int) × Int)) (order_19 : List Int) (level_24 : List Int) (memo_29 : List ((Int × Int × Int) × Int)) (fs_34 : List Int) (Q : (List (Int × Int)) → Prop) : Prop :=
  (Len fs_34 →
  VLoop (σ := (List (Int × Int)) × Int) (([] : List (Int × Int)), 0) fun (xin_56, x_59) xnext_77 =>
    (x_59 < (fs_34.length : Int) →
      In x_59 fs_34 ∧
      (I64 (ix fs_34 x_59) →
      ∃ mf, V_below mf nodes_4 free_9 xby_14 order_19 level_24 memo_29 (ix fs_34 x_59) xin_56 fun m_85 =>
        I64 (x_59 + 1) ∧
        xnext_77 (m_85, (x_59 + 1)))) ∧
    (¬ (x_59 < (fs_34.length : Int)) →
      Q xin_56))

/-- (*bdd.Table).Size: what is to be shown. -/
def V_Size (nodes_4 : List (Int × Int × Int)) (free_9 : List Int) (xby_14 : List ((Int × Int × Int) × Int)) (order_19 : List Int) (level_24 : List Int) (memo_29 : List ((Int × Int × Int) × Int)) (fs_34 : List Int) (Q : Int → Prop) : Prop :=
  V_all nodes_4 free_9 xby_14 order_19 level_24 memo_29 fs_34 fun r_37 =>
    Len r_37 ∧
    Q (r_37.length : Int)

/-- (*bdd.Table).Count$1: what is to be shown, so many calls deep. -/
def V_Count1 : Nat → Int → (List (Int × Int)) → (List (Int × Int × Int)) → (List Int) → (List ((Int × Int × Int) × Int)) → (List Int) → (List Int) → (List ((Int × Int × Int) × Int)) → (Int → (List (Int × Int)) → Prop) → Prop
  | 0, _, _, _, _, _, _, _, _, _ => False
  | m0 + 1, f_1, c_3_6, nodes_17, free_22, xby_27, order_32, level_37, memo_42, Q =>
    (f_1 ≤ 1 →
      Q f_1 c_3_6) ∧
    (¬ (f_1 ≤ 1) →
      (I64 (mgetD c_3_6 f_1 0) →
      ((mhas c_3_6 f_1) = true →
        Q (mgetD c_3_6 f_1 0) c_3_6) ∧
      ((mhas c_3_6 f_1) = false →
        In f_1 nodes_17 ∧
        (I64 (ix nodes_17 f_1).1 →
        (I64 (ix nodes_17 f_1).2.1 →
        (I64 (ix nodes_17 f_1).2.2 →
        V_depth nodes_17 free_22 xby_27 order_32 level_37 memo_42 f_1 fun r_71 =>
          V_Count1 m0 ((ix nodes_17 f_1).2.1) c_3_6 nodes_17 free_22 xby_27 order_32 level_37 memo_42 fun r_102 m_104 =>
            V_depth nodes_17 free_22 xby_27 order_32 level_37 memo_42 ((ix nodes_17 f_1).2.1) fun r_108 =>
              I64 (r_108 - r_71) ∧
              I64 ((r_108 - r_71) - 1) ∧
              ((0 : Int) ≤ ((r_108 - r_71) - 1) ∧ (((r_108 - r_71) - 1) : Int) < 64 ∧ I64 ((r_102 : Int) * 2 ^ ((r_108 - r_71) - 1).toNat)) ∧
              V_Count1 m0 ((ix nodes_17 f_1).2.2) m_104 nodes_17 free_22 xby_27 order_32 level_37 memo_42 fun r_122 m_124 =>
                V_depth nodes_17 free_22 xby_27 order_32 level_37 memo_42 ((ix nodes_17 f_1).2.2) fun r_128 =>
                  I64 (r_128 - r_71) ∧
                  I64 ((r_128 - r_71) - 1) ∧
                  ((0 : Int) ≤ ((r_128 - r_71) - 1) ∧ (((r_128 - r_71) - 1) : Int) < 64 ∧ I64 ((r_122 : Int) * 2 ^ ((r_128 - r_71) - 1).toNat)) ∧
                  I64 (((r_102 : Int) * 2 ^ ((r_108 - r_71) - 1).toNat) + ((r_122 : Int) * 2 ^ ((r_128 - r_71) - 1).toNat)) ∧
                  Q (((r_102 : Int) * 2 ^ ((r_108 - r_71) - 1).toNat) + ((r_122 : Int) * 2 ^ ((r_128 - r_71) - 1).toNat)) (mset m_124 f_1 (((r_102 : Int) * 2 ^ ((r_108 - r_71) - 1).toNat) + ((r_122 : Int) * 2 ^ ((r_128 - r_71) - 1).toNat)))))))))

/-- (*bdd.Table).Count: what is to be shown. -/
def V_Count (nodes_4 : List (Int × Int × Int)) (free_9 : List Int) (xby_14 : List ((Int × Int × Int) × Int)) (order_19 : List Int) (level_24 : List Int) (memo_29 : List ((Int × Int × Int) × Int)) (f_34 : Int) (Q : Int → Prop) : Prop :=
  ∃ mf, V_Count1 mf f_34 ([] : List (Int × Int)) nodes_4 free_9 xby_14 order_19 level_24 memo_29 fun r_54 m_56 =>
    V_depth nodes_4 free_9 xby_14 order_19 level_24 memo_29 f_34 fun r_60 =>
      ((0 : Int) ≤ r_60 ∧ (r_60 : Int) < 64 ∧ I64 ((r_54 : Int) * 2 ^ r_60.toNat)) ∧
      Q ((r_54 : Int) * 2 ^ r_60.toNat)

/-- plain.Told: what is to be shown. -/
def V_Told (err_1 : Option Int) (Q : Int → Prop) : Prop :=
  (err_1 = none →
    Q 0) ∧
  (¬ (err_1 = none) →
    V_As err_1 0 fun r_4 c_5 =>
      (r_4 = true →
        Q c_5) ∧
      (r_4 = false →
        Q (-1)))

/-- sextantsame.Error: what is to be shown. -/
def V_Error (err_1 : Option Int) (e_2 : Int) (Q : Bool → Prop) : Prop :=
  V_Told err_1 fun r_4 =>
    Q (decide (r_4 = e_2))

/-- sextantlaw7.BddNews: what is to be shown. -/
def V_BddNews (n_1 : Int) (i_3 : Int) (k_5 : Int) (xat_7 : List Bool) (Q : Bool → Prop) : Prop :=
  V_New n_1 fun r_10 r_16 =>
    (r_10 = none →
      ((n_1 < 0) ∨ (24 < n_1) →
        V_Error r_16 5 fun r_23 =>
          VMeet (σ := Bool) (fun x_26 =>
              Q x_26) fun J_27 =>
            (r_23 = true →
              J_27 true) ∧
            (r_23 = false →
              J_27 false)) ∧
      (¬ ((n_1 < 0) ∨ (24 < n_1)) →
        VMeet (σ := Unit) (fun _ =>
            Q false) fun J_31 =>
          (r_16 ≠ none →
            J_31 ()) ∧
          (¬ (r_16 ≠ none) →
            J_31 ()))) ∧
    (∀ (y_15_0 : List (Int × Int × Int)) (y_15_1 : List Int) (y_15_2 : List ((Int × Int × Int) × Int)) (y_15_3 : List Int) (y_15_4 : List Int) (y_15_5 : List ((Int × Int × Int) × Int)), r_10 = some (y_15_0, y_15_1, y_15_2, y_15_3, y_15_4, y_15_5) →
      ((n_1 < 0) ∨ (24 < n_1) →
        V_Error r_16 5 fun r_53 =>
          VMeet (σ := Unit) (fun _ =>
              Q false) fun J_56 =>
            (r_53 = true →
              J_56 ()) ∧
            (r_53 = false →
              J_56 ())) ∧
      (¬ ((n_1 < 0) ∨ (24 < n_1)) →
        VMeet (σ := Bool) (fun x_60 =>
            (x_60 = true →
              Q false) ∧
            (x_60 = false →
              V_Var y_15_0 y_15_1 y_15_2 y_15_3 y_15_4 y_15_5 i_3 fun r_64 c_66 c_70 m_74 =>
                V_Var c_66 c_70 m_74 y_15_3 y_15_4 y_15_5 k_5 fun r_80 c_82 c_86 m_90 =>
                  V_And c_82 c_86 m_90 y_15_3 y_15_4 y_15_5 r_64 r_80 fun r_96 c_98 c_102 m_106 m_109 =>
                    V_Eval c_98 c_102 m_106 y_15_3 y_15_4 m_109 r_64 xat_7 fun r_125 =>
                      VMeet (σ := Bool) (fun o_136 =>
                          V_Count c_98 c_102 m_106 y_15_3 y_15_4 m_109 r_96 fun r_148 =>
                            VMeet (σ := Int) (fun want_159 =>
                                V_False_ c_98 c_102 m_106 y_15_3 y_15_4 m_109 fun r_171 =>
                                  V_True_ c_98 c_102 m_106 y_15_3 y_15_4 m_109 fun r_174 =>
                                    V_Size c_98 c_102 m_106 y_15_3 y_15_4 m_109 ([r_96]) fun r_182 =>
                                      VMeet (σ := Int) (fun size_191 =>
                                          VMeet (σ := Bool) (fun x_207 =>
                                              Q x_207) fun J_208 =>
                                            ((r_125 == o_136) = true →
                                              (r_148 = want_159 →
                                                (r_171 ≠ r_174 →
                                                  (((decide (r_64 = r_171)) == (!(decide ((0 ≤ i_3) ∧ (i_3 < n_1))))) = true →
                                                    J_208 (decide (r_182 = size_191))) ∧
                                                  (((decide (r_64 = r_171)) == (!(decide ((0 ≤ i_3) ∧ (i_3 < n_1))))) = false →
                                                    J_208 false)) ∧
                                                (¬ (r_171 ≠ r_174) →
                                                  J_208 false)) ∧
                                              (¬ (r_148 = want_159) →
                                                J_208 false)) ∧
                                            ((r_125 == o_136) = false →
                                              J_208 false)) fun J_193 =>
                                        (0 < want_159 →
                                          (i_3 = k_5 →
                                            J_193 1) ∧
                                          (¬ (i_3 = k_5) →
                                            J_193 2)) ∧
                                        (¬ (0 < want_159) →
                                          J_193 0)) fun J_161 =>
                              (((0 ≤ i_3) ∧ (i_3 < n_1)) ∧ ((0 ≤ k_5) ∧ (k_5 < n_1)) →
                                ((0 : Int) ≤ n_1 ∧ (n_1 : Int) < 64 ∧ I64 ((1 : Int) * 2 ^ n_1.toNat)) ∧
                                ((4 : Int) ≠ 0 ∧ I64 (((1 : Int) * 2 ^ n_1.toNat).tdiv 4)) ∧
                                (i_3 = k_5 →
                                  ((0 : Int) ≤ n_1 ∧ (n_1 : Int) < 64 ∧ I64 ((1 : Int) * 2 ^ n_1.toNat)) ∧
                                  ((2 : Int) ≠ 0 ∧ I64 (((1 : Int) * 2 ^ n_1.toNat).tdiv 2)) ∧
                                  J_161 (((1 : Int) * 2 ^ n_1.toNat).tdiv 2)) ∧
                                (¬ (i_3 = k_5) →
                                  J_161 (((1 : Int) * 2 ^ n_1.toNat).tdiv 4))) ∧
                              (¬ (((0 ≤ i_3) ∧ (i_3 < n_1)) ∧ ((0 ≤ k_5) ∧ (k_5 < n_1))) →
                                J_161 0)) fun J_137 =>
                        ((0 ≤ i_3) ∧ (i_3 < n_1) →
                          (Len xat_7 →
                          (i_3 < (xat_7.length : Int) →
                            In i_3 xat_7 ∧
                            J_137 (ix xat_7 i_3)) ∧
                          (¬ (i_3 < (xat_7.length : Int)) →
                            J_137 false))) ∧
                        (¬ ((0 ≤ i_3) ∧ (i_3 < n_1)) →
                          J_137 false))) fun J_61 =>
          (r_16 ≠ none →
            J_61 true) ∧
          (¬ (r_16 ≠ none) →
            J_61 false)))

end Go.Vc
