/- For each function: what is to be shown of plain data so that it does its work. Printed by program. -/
import Derived.Test.YtceipmldngeagaaMore
import Derived.Test.YtceipmldngeagaaSrt
set_option linter.unusedVariables false
namespace Go.Vc
/-- bdd.New: what is to be shown. -/
def V_New (n_1 : Int) (Q : (Option (N3 × LI × M3 × LI × LI × M3)) → (Option Int) → Prop) : Prop :=
 ((n_1 < 0) ∨ (24 < n_1) →
 Q none (some 5)) ∧
 (¬ ((n_1 < 0) ∨ (24 < n_1)) →
 Made 2 24 ∧
 VLoop (σ := LI × LI × Int) (([] : LI), ([] : LI), 0) fun (c_344, c_349, x_353) xnext_673 =>
 (x_353 < n_1 →
 VMeet (σ := LI × LI) (fun (c_826, c_831) =>
 I64 (x_353 + 1) ∧
 xnext_673 (c_826, c_831, (x_353 + 1))) fun J_835 =>
 (Room (c_344.length + ([x_353]).length) 8 ∧
 Room (c_349.length + ([x_353]).length) 8 ∧
 J_835 ((c_344 ++ ([x_353])), (c_349 ++ ([x_353])))) ∧
 (Room (c_344.length + ([x_353]).length) 8 ∧
 Room (c_349.length + ([x_353]).length) 8 ∧
 J_835 ((c_344 ++ ([x_353])), (c_349 ++ ([x_353])))) ∧
 Room (c_344.length + ([x_353]).length) 8 ∧
 Room (c_349.length + ([x_353]).length) 8 ∧
 J_835 ((c_344 ++ ([x_353])), (c_349 ++ ([x_353])))) ∧
 (¬ (x_353 < n_1) →
 In 0 (List.replicate (2 : Int).toNat ((0 : Int), (0 : Int), (0 : Int))) ∧
 In 1 ((List.replicate (2 : Int).toNat ((0 : Int), (0 : Int), (0 : Int))).set (0 : Int).toNat (n_1, (ix (List.replicate (2 : Int).toNat ((0 : Int), (0 : Int), (0 : Int))) 0).2.1, (ix (List.replicate (2 : Int).toNat ((0 : Int), (0 : Int), (0 : Int))) 0).2.2)) ∧
 Q (some ((((List.replicate (2 : Int).toNat ((0 : Int), (0 : Int), (0 : Int))).set (0 : Int).toNat (n_1, (ix (List.replicate (2 : Int).toNat ((0 : Int), (0 : Int), (0 : Int))) 0).2.1, (ix (List.replicate (2 : Int).toNat ((0 : Int), (0 : Int), (0 : Int))) 0).2.2)).set (1 : Int).toNat (n_1, (ix ((List.replicate (2 : Int).toNat ((0 : Int), (0 : Int), (0 : Int))).set (0 : Int).toNat (n_1, (ix (List.replicate (2 : Int).toNat ((0 : Int), (0 : Int), (0 : Int))) 0).2.1, (ix (List.replicate (2 : Int).toNat ((0 : Int), (0 : Int), (0 : Int))) 0).2.2)) 1).2.1, (ix ((List.replicate (2 : Int).toNat ((0 : Int), (0 : Int), (0 : Int))).set (0 : Int).toNat (n_1, (ix (List.replicate (2 : Int).toNat ((0 : Int), (0 : Int), (0 : Int))) 0).2.1, (ix (List.replicate (2 : Int).toNat ((0 : Int), (0 : Int), (0 : Int))) 0).2.2)) 1).2.2)), ([] : LI), ([] : M3), c_344, c_349, ([] : M3))) none))

/-- (*bdd.Table).False: what is to be shown. -/
def V_False_ (nodes_4 : N3) (free_9 : LI) (xby_14 : M3) (order_19 : LI) (level_24 : LI) (memo_29 : M3) (Q : Int → Prop) : Prop :=
 Q 0

/-- (*bdd.Table).True: what is to be shown. -/
def V_True_ (nodes_4 : N3) (free_9 : LI) (xby_14 : M3) (order_19 : LI) (level_24 : LI) (memo_29 : M3) (Q : Int → Prop) : Prop :=
 Q 1

/-- (*bdd.Table).Is: what is to be shown. -/
def V_Is (nodes_4 : N3) (free_9 : LI) (xby_14 : M3) (order_19 : LI) (level_24 : LI) (memo_29 : M3) (i_34 : Int) (Q : Bool → Prop) : Prop :=
 VMeet (σ := Bool) (fun x_40 =>
 Q x_40) fun J_41 =>
 (0 ≤ i_34 →
 (Len order_19 →
 J_41 (decide (i_34 < (order_19.length : Int))))) ∧
 (¬ (0 ≤ i_34) →
 J_41 false)

/-- (*bdd.Table).make: what is to be shown. -/
def V_make (nodes_4 : N3) (free_9 : LI) (xby_14 : M3) (order_19 : LI) (level_24 : LI) (memo_29 : M3) (xat_34 : Int) (low_36 : Int) (up_38 : Int) (Q : Int → N3 → LI → M3 → Prop) : Prop :=
 (low_36 = up_38 →
 Q low_36 nodes_4 free_9 xby_14) ∧
 (¬ (low_36 = up_38) →
 (I64 (mgetD xby_14 (xat_34, low_36, up_38) 0) →
 ((mhas xby_14 (xat_34, low_36, up_38)) = true →
 Q (mgetD xby_14 (xat_34, low_36, up_38) 0) nodes_4 free_9 xby_14) ∧
 ((mhas xby_14 (xat_34, low_36, up_38)) = false →
 VMeet (σ := N3 × LI × Int) (fun (c_108, c_113, n_117) =>
 Q n_117 c_108 c_113 (mset xby_14 (xat_34, low_36, up_38) n_117)) fun J_119 =>
 (Len free_9 →
 I64 ((free_9.length : Int) - 1) ∧
 (0 ≤ ((free_9.length : Int) - 1) →
 In ((free_9.length : Int) - 1) free_9 ∧
 (I64 (ix free_9 ((free_9.length : Int) - 1)) →
 ((0 : Int) ≤ ((free_9.length : Int) - 1) ∧ ((free_9.length : Int) - 1) ≤ (free_9.length : Int)) ∧
 In (ix free_9 ((free_9.length : Int) - 1)) nodes_4 ∧
 J_119 ((nodes_4.set (ix free_9 ((free_9.length : Int) - 1)).toNat (xat_34, low_36, up_38)), (free_9.take ((free_9.length : Int) - 1).toNat), (ix free_9 ((free_9.length : Int) - 1))))) ∧
 (¬ (0 ≤ ((free_9.length : Int) - 1)) →
 (Len nodes_4 →
 Room (nodes_4.length + ([(xat_34, low_36, up_38)]).length) 24 ∧
 J_119 ((nodes_4 ++ ([(xat_34, low_36, up_38)])), free_9, (nodes_4.length : Int))))))))

/-- (*bdd.Table).Var: what is to be shown. -/
def V_Var (nodes_4 : N3) (free_9 : LI) (xby_14 : M3) (order_19 : LI) (level_24 : LI) (memo_29 : M3) (i_34 : Int) (Q : Int → N3 → LI → M3 → Prop) : Prop :=
 V_Is nodes_4 free_9 xby_14 order_19 level_24 memo_29 i_34 fun r_36 =>
 ((!r_36) = true →
 Q 0 nodes_4 free_9 xby_14) ∧
 ((!r_36) = false →
 V_make nodes_4 free_9 xby_14 order_19 level_24 memo_29 i_34 0 1 fun r_38 c_40 c_44 m_48 =>
 Q r_38 c_40 c_44 m_48)

/-- (*bdd.Table).depth: what is to be shown. -/
def V_depth (nodes_4 : N3) (free_9 : LI) (xby_14 : M3) (order_19 : LI) (level_24 : LI) (memo_29 : M3) (f_34 : Int) (Q : Int → Prop) : Prop :=
 (f_34 ≤ 1 →
 (Len order_19 →
 Q (order_19.length : Int))) ∧
 (¬ (f_34 ≤ 1) →
 In f_34 nodes_4 ∧
 (I64 ((ix nodes_4 f_34).1) →
 In ((ix nodes_4 f_34).1) level_24 ∧
 (I64 (ix level_24 ((ix nodes_4 f_34).1)) →
 Q (ix level_24 ((ix nodes_4 f_34).1)))))

/-- (*bdd.Table).split: what is to be shown. -/
def V_split (nodes_4 : N3) (free_9 : LI) (xby_14 : M3) (order_19 : LI) (level_24 : LI) (memo_29 : M3) (f_34 : Int) (level_36 : Int) (Q : Int → Int → Prop) : Prop :=
 V_depth nodes_4 free_9 xby_14 order_19 level_24 memo_29 f_34 fun r_38 =>
 (r_38 ≠ level_36 →
 Q f_34 f_34) ∧
 (¬ (r_38 ≠ level_36) →
 In f_34 nodes_4 ∧
 (I64 ((ix nodes_4 f_34).2.1) →
 In f_34 nodes_4 ∧
 (I64 ((ix nodes_4 f_34).2.2) →
 Q ((ix nodes_4 f_34).2.1) ((ix nodes_4 f_34).2.2))))

/-- (*bdd.Table).Ite: what is to be shown, so many calls deep. -/
def V_Ite : Nat → N3 → LI → M3 → LI → LI → M3 → Int → Int → Int → (Int → N3 → LI → M3 → M3 → Prop) → Prop
 | 0, _, _, _, _, _, _, _, _, _, _ => False
 | m0 + 1, nodes_4, free_9, xby_14, order_19, level_24, memo_29, f_34, g_36, h_38, Q =>
 ((f_34 = 1) ∨ (g_36 = h_38) →
 Q g_36 nodes_4 free_9 xby_14 memo_29) ∧
 (¬ ((f_34 = 1) ∨ (g_36 = h_38)) →
 (f_34 = 0 →
 Q h_38 nodes_4 free_9 xby_14 memo_29) ∧
 (¬ (f_34 = 0) →
 ((g_36 = 1) ∧ (h_38 = 0) →
 Q f_34 nodes_4 free_9 xby_14 memo_29) ∧
 (¬ ((g_36 = 1) ∧ (h_38 = 0)) →
 (I64 (mgetD memo_29 (f_34, g_36, h_38) 0) →
 ((mhas memo_29 (f_34, g_36, h_38)) = true →
 Q (mgetD memo_29 (f_34, g_36, h_38) 0) nodes_4 free_9 xby_14 memo_29) ∧
 ((mhas memo_29 (f_34, g_36, h_38)) = false →
 V_depth nodes_4 free_9 xby_14 order_19 level_24 memo_29 f_34 fun r_56 =>
 V_depth nodes_4 free_9 xby_14 order_19 level_24 memo_29 g_36 fun r_59 =>
 V_depth nodes_4 free_9 xby_14 order_19 level_24 memo_29 h_38 fun r_62 =>
 V_split nodes_4 free_9 xby_14 order_19 level_24 memo_29 f_34 (min (min r_56 r_59) r_62) fun r_65 r_67 =>
 V_split nodes_4 free_9 xby_14 order_19 level_24 memo_29 g_36 (min (min r_56 r_59) r_62) fun r_70 r_72 =>
 V_split nodes_4 free_9 xby_14 order_19 level_24 memo_29 h_38 (min (min r_56 r_59) r_62) fun r_75 r_77 =>
 In (min (min r_56 r_59) r_62) order_19 ∧
 (I64 (ix order_19 (min (min r_56 r_59) r_62)) →
 V_Ite m0 nodes_4 free_9 xby_14 order_19 level_24 memo_29 r_65 r_70 r_75 fun r_118 c_120 c_124 m_128 m_131 =>
 V_Ite m0 c_120 c_124 m_128 order_19 level_24 m_131 r_67 r_72 r_77 fun r_137 c_139 c_143 m_147 m_150 =>
 V_make c_139 c_143 m_147 order_19 level_24 m_150 (ix order_19 (min (min r_56 r_59) r_62)) r_118 r_137 fun r_156 c_158 c_162 m_166 =>
 Q r_156 c_158 c_162 m_166 (mset m_150 (f_34, g_36, h_38) r_156)))))))

/-- (*bdd.Table).Not: what is to be shown. -/
def V_Not (nodes_4 : N3) (free_9 : LI) (xby_14 : M3) (order_19 : LI) (level_24 : LI) (memo_29 : M3) (f_34 : Int) (Q : Int → N3 → LI → M3 → M3 → Prop) : Prop :=
 ∃ mf, V_Ite mf nodes_4 free_9 xby_14 order_19 level_24 memo_29 f_34 0 1 fun r_36 c_38 c_42 m_46 m_49 =>
 Q r_36 c_38 c_42 m_46 m_49

/-- (*bdd.Table).And: what is to be shown. -/
def V_And (nodes_4 : N3) (free_9 : LI) (xby_14 : M3) (order_19 : LI) (level_24 : LI) (memo_29 : M3) (f_34 : Int) (g_36 : Int) (Q : Int → N3 → LI → M3 → M3 → Prop) : Prop :=
 ∃ mf, V_Ite mf nodes_4 free_9 xby_14 order_19 level_24 memo_29 f_34 g_36 0 fun r_38 c_40 c_44 m_48 m_51 =>
 Q r_38 c_40 c_44 m_48 m_51

/-- (*bdd.Table).Or: what is to be shown. -/
def V_Or (nodes_4 : N3) (free_9 : LI) (xby_14 : M3) (order_19 : LI) (level_24 : LI) (memo_29 : M3) (f_34 : Int) (g_36 : Int) (Q : Int → N3 → LI → M3 → M3 → Prop) : Prop :=
 ∃ mf, V_Ite mf nodes_4 free_9 xby_14 order_19 level_24 memo_29 f_34 1 g_36 fun r_38 c_40 c_44 m_48 m_51 =>
 Q r_38 c_40 c_44 m_48 m_51

/-- (*bdd.Table).Xor: what is to be shown. -/
def V_Xor (nodes_4 : N3) (free_9 : LI) (xby_14 : M3) (order_19 : LI) (level_24 : LI) (memo_29 : M3) (f_34 : Int) (g_36 : Int) (Q : Int → N3 → LI → M3 → M3 → Prop) : Prop :=
 V_Not nodes_4 free_9 xby_14 order_19 level_24 memo_29 g_36 fun r_38 c_40 c_44 m_48 m_51 =>
 ∃ mf, V_Ite mf c_40 c_44 m_48 order_19 level_24 m_51 f_34 r_38 g_36 fun r_57 c_59 c_63 m_67 m_70 =>
 Q r_57 c_59 c_63 m_67 m_70

/-- slices.Index[[]int,int]: what is to be shown. -/
def V_IndexI (s_1 : LI) (v_4 : Int) (Q : Int → Prop) : Prop :=
 (Len s_1 →
 VLoop (σ := Int) 0 fun x_19 xnext_35 =>
 (x_19 < (s_1.length : Int) →
 In x_19 s_1 ∧
 (I64 (ix s_1 x_19) →
 (v_4 = (ix s_1 x_19) →
 Q x_19) ∧
 (¬ (v_4 = (ix s_1 x_19)) →
 I64 (x_19 + 1) ∧
 xnext_35 (x_19 + 1)))) ∧
 (¬ (x_19 < (s_1.length : Int)) →
 Q (-1)))

/-- slices.Contains[[]int,int]: what is to be shown. -/
def V_ContainsI (s_1 : LI) (v_4 : Int) (Q : Bool → Prop) : Prop :=
 V_IndexI s_1 v_4 fun r_6 =>
 Q (decide (0 ≤ r_6))

/-- (*bdd.Table).Exists$1: what is to be shown. -/
def V_Exists1 (xat_1 : Int) (low_3 : Int) (up_5 : Int) (c_7_10 : LI) (nodes_19 : N3) (free_24 : LI) (xby_29 : M3) (order_34 : LI) (level_39 : LI) (memo_44 : M3) (Q : Int → N3 → LI → M3 → M3 → Prop) : Prop :=
 V_ContainsI c_7_10 xat_1 fun r_49 =>
 (r_49 = true →
 V_Or nodes_19 free_24 xby_29 order_34 level_39 memo_44 low_3 up_5 fun r_51 c_53 c_57 m_61 m_64 =>
 Q r_51 c_53 c_57 m_61 m_64) ∧
 (r_49 = false →
 V_make nodes_19 free_24 xby_29 order_34 level_39 memo_44 xat_1 0 1 fun r_80 c_82 c_86 m_90 =>
 ∃ mf, V_Ite mf c_82 c_86 m_90 order_34 level_39 memo_44 r_80 up_5 low_3 fun r_96 c_98 c_102 m_106 m_109 =>
 Q r_96 c_98 c_102 m_106 m_109)

/-- (*bdd.Table).Let$1: what is to be shown. -/
def V_Let1 (xat_1 : Int) (low_3 : Int) (up_5 : Int) (c_7_10 : Int) (nodes_18 : N3) (free_23 : LI) (xby_28 : M3) (order_33 : LI) (level_38 : LI) (memo_43 : M3) (c_48_51 : Int) (Q : Int → N3 → LI → M3 → M3 → Prop) : Prop :=
 (xat_1 = c_7_10 →
 ∃ mf, V_Ite mf nodes_18 free_23 xby_28 order_33 level_38 memo_43 c_48_51 up_5 low_3 fun r_54 c_56 c_60 m_64 m_67 =>
 Q r_54 c_56 c_60 m_64 m_67) ∧
 (¬ (xat_1 = c_7_10) →
 V_make nodes_18 free_23 xby_28 order_33 level_38 memo_43 xat_1 0 1 fun r_83 c_85 c_89 m_93 =>
 ∃ mf, V_Ite mf c_85 c_89 m_93 order_33 level_38 memo_43 r_83 up_5 low_3 fun r_99 c_101 c_105 m_109 m_112 =>
 Q r_99 c_101 c_105 m_109 m_112)

/-- (*bdd.Table).over#Exists: what is to be shown, so many calls deep. -/
def V_overE : Nat → N3 → LI → M3 → LI → LI → M3 → Int → M1 → LI → (Int → N3 → LI → M3 → M3 → M1 → Prop) → Prop
 | 0, _, _, _, _, _, _, _, _, _, _ => False
 | m0 + 1, nodes_4, free_9, xby_14, order_19, level_24, memo_29, f_34, seen_36, c_42_45, Q =>
 (f_34 ≤ 1 →
 Q f_34 nodes_4 free_9 xby_14 memo_29 seen_36) ∧
 (¬ (f_34 ≤ 1) →
 (I64 (mgetD seen_36 f_34 0) →
 ((mhas seen_36 f_34) = true →
 Q (mgetD seen_36 f_34 0) nodes_4 free_9 xby_14 memo_29 seen_36) ∧
 ((mhas seen_36 f_34) = false →
 In f_34 nodes_4 ∧
 (I64 (ix nodes_4 f_34).1 →
 (I64 (ix nodes_4 f_34).2.1 →
 (I64 (ix nodes_4 f_34).2.2 →
 V_overE m0 nodes_4 free_9 xby_14 order_19 level_24 memo_29 ((ix nodes_4 f_34).2.1) seen_36 c_42_45 fun r_95 c_97 c_101 m_105 m_108 m_111 =>
 V_overE m0 c_97 c_101 m_105 order_19 level_24 m_108 ((ix nodes_4 f_34).2.2) m_111 c_42_45 fun r_117 c_119 c_123 m_127 m_130 m_133 =>
 V_Exists1 ((ix nodes_4 f_34).1) r_95 r_117 c_42_45 c_119 c_123 m_127 order_19 level_24 m_130 fun r_139 c_141 c_145 m_149 m_152 =>
 Q r_139 c_141 c_145 m_149 m_152 (mset m_133 f_34 r_139)))))))

/-- (*bdd.Table).over#Let: what is to be shown, so many calls deep. -/
def V_overL : Nat → N3 → LI → M3 → LI → LI → M3 → Int → M1 → Int → Int → (Int → N3 → LI → M3 → M3 → M1 → Prop) → Prop
 | 0, _, _, _, _, _, _, _, _, _, _, _ => False
 | m0 + 1, nodes_4, free_9, xby_14, order_19, level_24, memo_29, f_34, seen_36, c_42_45, c_51_54, Q =>
 (f_34 ≤ 1 →
 Q f_34 nodes_4 free_9 xby_14 memo_29 seen_36) ∧
 (¬ (f_34 ≤ 1) →
 (I64 (mgetD seen_36 f_34 0) →
 ((mhas seen_36 f_34) = true →
 Q (mgetD seen_36 f_34 0) nodes_4 free_9 xby_14 memo_29 seen_36) ∧
 ((mhas seen_36 f_34) = false →
 In f_34 nodes_4 ∧
 (I64 (ix nodes_4 f_34).1 →
 (I64 (ix nodes_4 f_34).2.1 →
 (I64 (ix nodes_4 f_34).2.2 →
 V_overL m0 nodes_4 free_9 xby_14 order_19 level_24 memo_29 ((ix nodes_4 f_34).2.1) seen_36 c_42_45 c_51_54 fun r_99 c_101 c_105 m_109 m_112 m_115 =>
 V_overL m0 c_101 c_105 m_109 order_19 level_24 m_112 ((ix nodes_4 f_34).2.2) m_115 c_42_45 c_51_54 fun r_121 c_123 c_127 m_131 m_134 m_137 =>
 V_Let1 ((ix nodes_4 f_34).1) r_99 r_121 c_42_45 c_123 c_127 m_131 order_19 level_24 m_134 c_51_54 fun r_143 c_145 c_149 m_153 m_156 =>
 Q r_143 c_145 c_149 m_153 m_156 (mset m_137 f_34 r_143)))))))

/-- (*bdd.Table).Exists: what is to be shown. -/
def V_Exists (nodes_4 : N3) (free_9 : LI) (xby_14 : M3) (order_19 : LI) (level_24 : LI) (memo_29 : M3) (f_34 : Int) (vars_36 : LI) (Q : Int → N3 → LI → M3 → M3 → Prop) : Prop :=
 ∃ mf, V_overE mf nodes_4 free_9 xby_14 order_19 level_24 memo_29 f_34 ([] : M1) vars_36 fun r_47 c_49 c_53 m_57 m_60 m_63 =>
 Q r_47 c_49 c_53 m_57 m_60

/-- (*bdd.Table).Forall: what is to be shown. -/
def V_Forall (nodes_4 : N3) (free_9 : LI) (xby_14 : M3) (order_19 : LI) (level_24 : LI) (memo_29 : M3) (f_34 : Int) (vars_36 : LI) (Q : Int → N3 → LI → M3 → M3 → Prop) : Prop :=
 V_Not nodes_4 free_9 xby_14 order_19 level_24 memo_29 f_34 fun r_39 c_41 c_45 m_49 m_52 =>
 V_Exists c_41 c_45 m_49 order_19 level_24 m_52 r_39 vars_36 fun r_58 c_60 c_64 m_68 m_71 =>
 V_Not c_60 c_64 m_68 order_19 level_24 m_71 r_58 fun r_77 c_79 c_83 m_87 m_90 =>
 Q r_77 c_79 c_83 m_87 m_90

/-- (*bdd.Table).Let: what is to be shown. -/
def V_Let (nodes_4 : N3) (free_9 : LI) (xby_14 : M3) (order_19 : LI) (level_24 : LI) (memo_29 : M3) (f_34 : Int) (i_36 : Int) (g_38 : Int) (Q : Int → N3 → LI → M3 → M3 → Prop) : Prop :=
 ∃ mf, V_overL mf nodes_4 free_9 xby_14 order_19 level_24 memo_29 f_34 ([] : M1) i_36 g_38 fun r_50 c_52 c_56 m_60 m_63 m_66 =>
 Q r_50 c_52 c_56 m_60 m_63

/-- (*bdd.Table).Eval: what is to be shown. -/
def V_Eval (nodes_4 : N3) (free_9 : LI) (xby_14 : M3) (order_19 : LI) (level_24 : LI) (memo_29 : M3) (f_34 : Int) (xat_36 : List Bool) (Q : Bool → Prop) : Prop :=
 VLoop (σ := Int) f_34 fun f_74 xnext_113 =>
 (1 < f_74 →
 In f_74 nodes_4 ∧
 (I64 (ix nodes_4 f_74).1 →
 (I64 (ix nodes_4 f_74).2.1 →
 (I64 (ix nodes_4 f_74).2.2 →
 VMeet (σ := Bool) (fun x_136 =>
 (x_136 = true →
 xnext_113 ((ix nodes_4 f_74).2.2)) ∧
 (x_136 = false →
 xnext_113 ((ix nodes_4 f_74).2.1))) fun J_137 =>
 (Len xat_36 →
 ((ix nodes_4 f_74).1 < (xat_36.length : Int) →
 In ((ix nodes_4 f_74).1) xat_36 ∧
 J_137 (ix xat_36 ((ix nodes_4 f_74).1))) ∧
 (¬ ((ix nodes_4 f_74).1 < (xat_36.length : Int)) →
 J_137 false)))))) ∧
 (¬ (1 < f_74) →
 Q (decide (f_74 = 1)))

/-- (*bdd.Table).below: what is to be shown, so many calls deep. -/
def V_below : Nat → N3 → LI → M3 → LI → LI → M3 → Int → M1 → (M1 → Prop) → Prop
 | 0, _, _, _, _, _, _, _, _, _ => False
 | m0 + 1, nodes_4, free_9, xby_14, order_19, level_24, memo_29, f_34, xin_36, Q =>
 VMeet (σ := Bool) (fun x_47 =>
 (x_47 = true →
 Q xin_36) ∧
 (x_47 = false →
 In f_34 nodes_4 ∧
 (I64 ((ix nodes_4 f_34).2.1) →
 V_below m0 nodes_4 free_9 xby_14 order_19 level_24 memo_29 ((ix nodes_4 f_34).2.1) (mset xin_36 f_34 1) fun m_66 =>
 In f_34 nodes_4 ∧
 (I64 ((ix nodes_4 f_34).2.2) →
 V_below m0 nodes_4 free_9 xby_14 order_19 level_24 memo_29 ((ix nodes_4 f_34).2.2) m_66 fun m_78 =>
 Q m_78)))) fun J_48 =>
 (f_34 ≤ 1 →
 J_48 true) ∧
 (¬ (f_34 ≤ 1) →
 (I64 (mgetD xin_36 f_34 0) →
 J_48 (decide ((mgetD xin_36 f_34 0) ≠ 0))))

/-- (*bdd.Table).all: what is to be shown. -/
def V_all (nodes_4 : N3) (free_9 : LI) (xby_14 : M3) (order_19 : LI) (level_24 : LI) (memo_29 : M3) (fs_34 : LI) (Q : M1 → Prop) : Prop :=
 (Len fs_34 →
 VLoop (σ := M1 × Int) (([] : M1), 0) fun (xin_56, x_59) xnext_77 =>
 (x_59 < (fs_34.length : Int) →
 In x_59 fs_34 ∧
 (I64 (ix fs_34 x_59) →
 ∃ mf, V_below mf nodes_4 free_9 xby_14 order_19 level_24 memo_29 (ix fs_34 x_59) xin_56 fun m_85 =>
 I64 (x_59 + 1) ∧
 xnext_77 (m_85, (x_59 + 1)))) ∧
 (¬ (x_59 < (fs_34.length : Int)) →
 Q xin_56))

/-- (*bdd.Table).Size: what is to be shown. -/
def V_Size (nodes_4 : N3) (free_9 : LI) (xby_14 : M3) (order_19 : LI) (level_24 : LI) (memo_29 : M3) (fs_34 : LI) (Q : Int → Prop) : Prop :=
 V_all nodes_4 free_9 xby_14 order_19 level_24 memo_29 fs_34 fun r_37 =>
 Len r_37 ∧
 Q (r_37.length : Int)

/-- (*bdd.Table).Nodes: what is to be shown. -/
def V_Nodes (nodes_4 : N3) (free_9 : LI) (xby_14 : M3) (order_19 : LI) (level_24 : LI) (memo_29 : M3) (Q : Int → Prop) : Prop :=
 Len xby_14 ∧
 Q (xby_14.length : Int)

/-- (*bdd.Table).Count$1: what is to be shown, so many calls deep. -/
def V_Count1 : Nat → Int → M1 → N3 → LI → M3 → LI → LI → M3 → (Int → M1 → Prop) → Prop
 | 0, _, _, _, _, _, _, _, _, _ => False
 | m0 + 1, f_1, c_3_6, nodes_17, free_22, xby_27, order_32, level_37, memo_42, Q =>
 (f_1 ≤ 1 →
 Q f_1 c_3_6) ∧
 (¬ (f_1 ≤ 1) →
 (I64 (mgetD c_3_6 f_1 0) →
 ((mhas c_3_6 f_1) = true →
 Q (mgetD c_3_6 f_1 0) c_3_6) ∧
 ((mhas c_3_6 f_1) = false →
 In f_1 nodes_17 ∧
 (I64 (ix nodes_17 f_1).1 →
 (I64 (ix nodes_17 f_1).2.1 →
 (I64 (ix nodes_17 f_1).2.2 →
 V_depth nodes_17 free_22 xby_27 order_32 level_37 memo_42 f_1 fun r_71 =>
 V_Count1 m0 ((ix nodes_17 f_1).2.1) c_3_6 nodes_17 free_22 xby_27 order_32 level_37 memo_42 fun r_102 m_104 =>
 V_depth nodes_17 free_22 xby_27 order_32 level_37 memo_42 ((ix nodes_17 f_1).2.1) fun r_108 =>
 I64 (r_108 - r_71) ∧
 I64 ((r_108 - r_71) - 1) ∧
 ((0 : Int) ≤ ((r_108 - r_71) - 1) ∧ (((r_108 - r_71) - 1) : Int) < 64 ∧ I64 ((r_102 : Int) * 2 ^ ((r_108 - r_71) - 1).toNat)) ∧
 V_Count1 m0 ((ix nodes_17 f_1).2.2) m_104 nodes_17 free_22 xby_27 order_32 level_37 memo_42 fun r_122 m_124 =>
 V_depth nodes_17 free_22 xby_27 order_32 level_37 memo_42 ((ix nodes_17 f_1).2.2) fun r_128 =>
 I64 (r_128 - r_71) ∧
 I64 ((r_128 - r_71) - 1) ∧
 ((0 : Int) ≤ ((r_128 - r_71) - 1) ∧ (((r_128 - r_71) - 1) : Int) < 64 ∧ I64 ((r_122 : Int) * 2 ^ ((r_128 - r_71) - 1).toNat)) ∧
 I64 (((r_102 : Int) * 2 ^ ((r_108 - r_71) - 1).toNat) + ((r_122 : Int) * 2 ^ ((r_128 - r_71) - 1).toNat)) ∧
 Q (((r_102 : Int) * 2 ^ ((r_108 - r_71) - 1).toNat) + ((r_122 : Int) * 2 ^ ((r_128 - r_71) - 1).toNat)) (mset m_124 f_1 (((r_102 : Int) * 2 ^ ((r_108 - r_71) - 1).toNat) + ((r_122 : Int) * 2 ^ ((r_128 - r_71) - 1).toNat)))))))))

/-- (*bdd.Table).Count: what is to be shown. -/
def V_Count (nodes_4 : N3) (free_9 : LI) (xby_14 : M3) (order_19 : LI) (level_24 : LI) (memo_29 : M3) (f_34 : Int) (Q : Int → Prop) : Prop :=
 ∃ mf, V_Count1 mf f_34 ([] : M1) nodes_4 free_9 xby_14 order_19 level_24 memo_29 fun r_54 m_56 =>
 V_depth nodes_4 free_9 xby_14 order_19 level_24 memo_29 f_34 fun r_60 =>
 ((0 : Int) ≤ r_60 ∧ (r_60 : Int) < 64 ∧ I64 ((r_54 : Int) * 2 ^ r_60.toNat)) ∧
 Q ((r_54 : Int) * 2 ^ r_60.toNat)

/-- (*bdd.Table).First: what is to be shown. -/
def V_First (nodes_4 : N3) (free_9 : LI) (xby_14 : M3) (order_19 : LI) (level_24 : LI) (memo_29 : M3) (f_34 : Int) (Q : (List Bool) → Bool → N3 → LI → M3 → M3 → Prop) : Prop :=
 (f_34 = 0 →
 Q ([] : List Bool) false nodes_4 free_9 xby_14 memo_29) ∧
 (¬ (f_34 = 0) →
 (Len order_19 →
 Made (order_19.length : Int) 1 ∧
 (Len (List.replicate (order_19.length : Int).toNat false) →
 VLoop (σ := N3 × LI × M3 × M3 × Int × (List Bool) × Int) (nodes_4, free_9, xby_14, memo_29, f_34, (List.replicate (order_19.length : Int).toNat false), 0) fun (c_166, c_171, c_175, c_178, f_181, out_184, x_188) xnext_311 =>
 (x_188 < ((List.replicate (order_19.length : Int).toNat false).length : Int) →
 VMeet (σ := N3 × LI × M3 × M3 × Int × (List Bool)) (fun (c_359, c_364, c_368, c_371, f_374, out_377) =>
 I64 (x_188 + 1) ∧
 xnext_311 (c_359, c_364, c_368, c_371, f_374, out_377, (x_188 + 1))) fun J_381 =>
 V_Let c_166 c_171 c_175 order_19 level_24 c_178 f_181 x_188 0 fun r_383 c_385 c_389 m_393 m_396 =>
 (r_383 ≠ 0 →
 J_381 (c_385, c_389, m_393, m_396, r_383, out_184)) ∧
 (¬ (r_383 ≠ 0) →
 In x_188 out_184 ∧
 V_Let c_385 c_389 m_393 order_19 level_24 m_396 f_181 x_188 1 fun r_408 c_410 c_414 m_418 m_421 =>
 J_381 (c_410, c_414, m_418, m_421, r_408, (out_184.set x_188.toNat true)))) ∧
 (¬ (x_188 < ((List.replicate (order_19.length : Int).toNat false).length : Int)) →
 Q out_184 true c_166 c_171 c_175 c_178))))

/-- (*bdd.Table).Keep$1: what is to be shown. -/
def V_Keep1 (n_1 : Int) (c_3_6 : M1) (Q : Bool → Prop) : Prop :=
 (I64 (mgetD c_3_6 n_1 0) →
 Q (decide ((mgetD c_3_6 n_1 0) = 0)))

/-- (*bdd.Table).Sift$2: what is to be shown. -/
def V_Sift2 (n_1 : Int) (c_3_6 : M1) (Q : Bool → Prop) : Prop :=
 (I64 (mgetD c_3_6 n_1 0) →
 Q (decide ((mgetD c_3_6 n_1 0) = 0)))

/-- (*bdd.Table).forget#Keep: what is to be shown. -/
def V_forgetK (nodes_4 : N3) (free_9 : LI) (xby_14 : M3) (order_19 : LI) (level_24 : LI) (memo_29 : M3) (c_35_38 : M1) (Q : LI → M3 → M3 → Prop) : Prop :=
 VLoop (σ := M3 × N3) (xby_14, ([] : N3)) fun (c_77, sn_80) xnext_115 =>
 ((∀ p ∈ c_77, p.1 ∈ sn_80) →
 ((0 : Int) ≤ 0 ∧ 0 ≤ (free_9.length : Int)) ∧
 (Len nodes_4 →
 Made (nodes_4.length : Int) 1 ∧
 VLoop (σ := (List Bool) × N3) ((List.replicate (nodes_4.length : Int).toNat false), ([] : N3)) fun (used_152, sn_156) xnext_178 =>
 ((∀ p ∈ c_77, p.1 ∈ sn_156) →
 (Len nodes_4 →
 I64 ((nodes_4.length : Int) - 1) ∧
 VLoop (σ := LI × Int) ((free_9.take (0 : Int).toNat), ((nodes_4.length : Int) - 1)) fun (c_225, n_229) xnext_274 =>
 (1 < n_229 →
 VMeet (σ := LI) (fun c_292 =>
 I64 (n_229 - 1) ∧
 xnext_274 (c_292, (n_229 - 1))) fun J_296 =>
 In n_229 used_152 ∧
 ((!(ix used_152 n_229)) = true →
 Room (c_225.length + ([n_229]).length) 8 ∧
 J_296 (c_225 ++ ([n_229]))) ∧
 ((!(ix used_152 n_229)) = false →
 J_296 c_225)) ∧
 (¬ (1 < n_229) →
 Q c_225 c_77 ([] : M3)))) ∧
 (∀ (k_317 : (Int × Int × Int)) (e_318 : Int), (k_317, e_318) ∈ c_77 → k_317 ∉ sn_156 → I64 k_317.1 ∧ I64 k_317.2.1 ∧ I64 k_317.2.2 → I64 e_318 →
 In e_318 used_152 ∧
 xnext_178 ((used_152.set e_318.toNat true), (k_317 :: sn_156))))) ∧
 (∀ (k_334 : (Int × Int × Int)) (e_335 : Int), (k_334, e_335) ∈ c_77 → k_334 ∉ sn_80 → I64 k_334.1 ∧ I64 k_334.2.1 ∧ I64 k_334.2.2 → I64 e_335 →
 V_Keep1 e_335 c_35_38 fun r_347 =>
 (r_347 = true →
 xnext_115 ((mdel c_77 (k_334.1, k_334.2.1, k_334.2.2)), (k_334 :: sn_80))) ∧
 (r_347 = false →
 xnext_115 (c_77, (k_334 :: sn_80))))

/-- (*bdd.Table).forget#Sift: what is to be shown. -/
def V_forgetS (nodes_4 : N3) (free_9 : LI) (xby_14 : M3) (order_19 : LI) (level_24 : LI) (memo_29 : M3) (c_35_38 : M1) (Q : LI → M3 → M3 → Prop) : Prop :=
 VLoop (σ := M3 × N3) (xby_14, ([] : N3)) fun (c_77, sn_80) xnext_115 =>
 ((∀ p ∈ c_77, p.1 ∈ sn_80) →
 ((0 : Int) ≤ 0 ∧ 0 ≤ (free_9.length : Int)) ∧
 (Len nodes_4 →
 Made (nodes_4.length : Int) 1 ∧
 VLoop (σ := (List Bool) × N3) ((List.replicate (nodes_4.length : Int).toNat false), ([] : N3)) fun (used_152, sn_156) xnext_178 =>
 ((∀ p ∈ c_77, p.1 ∈ sn_156) →
 (Len nodes_4 →
 I64 ((nodes_4.length : Int) - 1) ∧
 VLoop (σ := LI × Int) ((free_9.take (0 : Int).toNat), ((nodes_4.length : Int) - 1)) fun (c_225, n_229) xnext_274 =>
 (1 < n_229 →
 VMeet (σ := LI) (fun c_292 =>
 I64 (n_229 - 1) ∧
 xnext_274 (c_292, (n_229 - 1))) fun J_296 =>
 In n_229 used_152 ∧
 ((!(ix used_152 n_229)) = true →
 Room (c_225.length + ([n_229]).length) 8 ∧
 J_296 (c_225 ++ ([n_229]))) ∧
 ((!(ix used_152 n_229)) = false →
 J_296 c_225)) ∧
 (¬ (1 < n_229) →
 Q c_225 c_77 ([] : M3)))) ∧
 (∀ (k_317 : (Int × Int × Int)) (e_318 : Int), (k_317, e_318) ∈ c_77 → k_317 ∉ sn_156 → I64 k_317.1 ∧ I64 k_317.2.1 ∧ I64 k_317.2.2 → I64 e_318 →
 In e_318 used_152 ∧
 xnext_178 ((used_152.set e_318.toNat true), (k_317 :: sn_156))))) ∧
 (∀ (k_334 : (Int × Int × Int)) (e_335 : Int), (k_334, e_335) ∈ c_77 → k_334 ∉ sn_80 → I64 k_334.1 ∧ I64 k_334.2.1 ∧ I64 k_334.2.2 → I64 e_335 →
 V_Sift2 e_335 c_35_38 fun r_347 =>
 (r_347 = true →
 xnext_115 ((mdel c_77 (k_334.1, k_334.2.1, k_334.2.2)), (k_334 :: sn_80))) ∧
 (r_347 = false →
 xnext_115 (c_77, (k_334 :: sn_80))))

/-- (*bdd.Table).Keep: what is to be shown. -/
def V_Keep (nodes_4 : N3) (free_9 : LI) (xby_14 : M3) (order_19 : LI) (level_24 : LI) (memo_29 : M3) (fs_34 : LI) (Q : LI → M3 → M3 → Prop) : Prop :=
 V_all nodes_4 free_9 xby_14 order_19 level_24 memo_29 fs_34 fun r_37 =>
 V_forgetK nodes_4 free_9 xby_14 order_19 level_24 memo_29 r_37 fun c_45 m_49 m_52 =>
 Q c_45 m_49 m_52

/-- slices.Clone[[]int,int]: what is to be shown. -/
def V_CloneI (s_1 : LI) (Q : LI → Prop) : Prop :=
 (∀ b_7 : Bool, (b_7 = true → s_1 = []) →
 (b_7 = true →
 Q ([] : LI)) ∧
 (b_7 = false →
 Room (([] : LI).length + s_1.length) 8 ∧
 Q s_1))

/-- (*bdd.Table).Order: what is to be shown. -/
def V_Order (nodes_4 : N3) (free_9 : LI) (xby_14 : M3) (order_19 : LI) (level_24 : LI) (memo_29 : M3) (Q : LI → Prop) : Prop :=
 V_CloneI order_19 fun r_36 =>
 Q r_36

/-- (*bdd.Table).asks: what is to be shown. -/
def V_asks (nodes_4 : N3) (free_9 : LI) (xby_14 : M3) (order_19 : LI) (level_24 : LI) (memo_29 : M3) (f_34 : Int) (xat_36 : Int) (Q : Bool → Prop) : Prop :=
 VMeet (σ := Bool) (fun x_49 =>
 Q x_49) fun J_50 =>
 (1 < f_34 →
 In f_34 nodes_4 ∧
 (I64 ((ix nodes_4 f_34).1) →
 J_50 (decide (((ix nodes_4 f_34).1) = xat_36)))) ∧
 (¬ (1 < f_34) →
 J_50 false)

/-- (*bdd.Table).under: what is to be shown. -/
def V_under (nodes_4 : N3) (free_9 : LI) (xby_14 : M3) (order_19 : LI) (level_24 : LI) (memo_29 : M3) (f_34 : Int) (xat_36 : Int) (Q : Int → Int → Prop) : Prop :=
 V_asks nodes_4 free_9 xby_14 order_19 level_24 memo_29 f_34 xat_36 fun r_38 =>
 (r_38 = true →
 In f_34 nodes_4 ∧
 (I64 ((ix nodes_4 f_34).2.1) →
 In f_34 nodes_4 ∧
 (I64 ((ix nodes_4 f_34).2.2) →
 Q ((ix nodes_4 f_34).2.1) ((ix nodes_4 f_34).2.2)))) ∧
 (r_38 = false →
 Q f_34 f_34)

/-- (*bdd.Table).Swap: what is to be shown. -/
def V_Swap (nodes_4 : N3) (free_9 : LI) (xby_14 : M3) (order_19 : LI) (level_24 : LI) (memo_29 : M3) (level_34 : Int) (Q : Bool → N3 → LI → M3 → LI → LI → M3 → Prop) : Prop :=
 VMeet (σ := Bool) (fun x_42 =>
 (x_42 = true →
 Q false nodes_4 free_9 xby_14 order_19 level_24 memo_29) ∧
 (x_42 = false →
 In level_34 order_19 ∧
 (I64 (ix order_19 level_34) →
 I64 (level_34 + 1) ∧
 In (level_34 + 1) order_19 ∧
 (I64 (ix order_19 (level_34 + 1)) →
 VLoop (σ := LI × N3) (([] : LI), ([] : N3)) fun (ask_112, sn_116) xnext_162 =>
 ((∀ p ∈ xby_14, p.1 ∈ sn_116) →
 V_SortN ask_112 fun c_164 =>
 (Len c_164 →
 VLoop (σ := M3 × Int) (xby_14, 0) fun (c_215, x_218) xnext_268 =>
 (x_218 < (c_164.length : Int) →
 In x_218 c_164 ∧
 (I64 (ix c_164 x_218) →
 In (ix c_164 x_218) nodes_4 ∧
 (I64 (ix nodes_4 (ix c_164 x_218)).1 →
 (I64 (ix nodes_4 (ix c_164 x_218)).2.1 →
 (I64 (ix nodes_4 (ix c_164 x_218)).2.2 →
 I64 (x_218 + 1) ∧
 xnext_268 ((mdel c_215 ((ix nodes_4 (ix c_164 x_218)).1, (ix nodes_4 (ix c_164 x_218)).2.1, (ix nodes_4 (ix c_164 x_218)).2.2)), (x_218 + 1))))))) ∧
 (¬ (x_218 < (c_164.length : Int)) →
 I64 (level_34 + 1) ∧
 In level_34 order_19 ∧
 In (level_34 + 1) (order_19.set level_34.toNat (ix order_19 (level_34 + 1))) ∧
 I64 (level_34 + 1) ∧
 In (ix order_19 level_34) level_24 ∧
 In (ix order_19 (level_34 + 1)) (level_24.set (ix order_19 level_34).toNat (level_34 + 1)) ∧
 (Len c_164 →
 VLoop (σ := N3 × LI × M3 × Int) (nodes_4, free_9, c_215, 0) fun (c_507, c_512, c_516, x_519) xnext_630 =>
 (x_519 < (c_164.length : Int) →
 In x_519 c_164 ∧
 (I64 (ix c_164 x_519) →
 In (ix c_164 x_519) c_507 ∧
 (I64 (ix c_507 (ix c_164 x_519)).1 →
 (I64 (ix c_507 (ix c_164 x_519)).2.1 →
 (I64 (ix c_507 (ix c_164 x_519)).2.2 →
 V_under c_507 c_512 c_516 ((order_19.set level_34.toNat (ix order_19 (level_34 + 1))).set (level_34 + 1).toNat (ix order_19 level_34)) ((level_24.set (ix order_19 level_34).toNat (level_34 + 1)).set (ix order_19 (level_34 + 1)).toNat level_34) memo_29 ((ix c_507 (ix c_164 x_519)).2.1) (ix order_19 (level_34 + 1)) fun r_651 r_653 =>
 V_under c_507 c_512 c_516 ((order_19.set level_34.toNat (ix order_19 (level_34 + 1))).set (level_34 + 1).toNat (ix order_19 level_34)) ((level_24.set (ix order_19 level_34).toNat (level_34 + 1)).set (ix order_19 (level_34 + 1)).toNat level_34) memo_29 ((ix c_507 (ix c_164 x_519)).2.2) (ix order_19 (level_34 + 1)) fun r_656 r_658 =>
 V_make c_507 c_512 c_516 ((order_19.set level_34.toNat (ix order_19 (level_34 + 1))).set (level_34 + 1).toNat (ix order_19 level_34)) ((level_24.set (ix order_19 level_34).toNat (level_34 + 1)).set (ix order_19 (level_34 + 1)).toNat level_34) memo_29 (ix order_19 level_34) r_651 r_656 fun r_661 c_663 c_667 m_671 =>
 V_make c_663 c_667 m_671 ((order_19.set level_34.toNat (ix order_19 (level_34 + 1))).set (level_34 + 1).toNat (ix order_19 level_34)) ((level_24.set (ix order_19 level_34).toNat (level_34 + 1)).set (ix order_19 (level_34 + 1)).toNat level_34) memo_29 (ix order_19 level_34) r_653 r_658 fun r_677 c_679 c_683 m_687 =>
 In (ix c_164 x_519) c_679 ∧
 In (ix c_164 x_519) (c_679.set (ix c_164 x_519).toNat ((ix order_19 (level_34 + 1)), r_661, r_677)) ∧
 (I64 (ix (c_679.set (ix c_164 x_519).toNat ((ix order_19 (level_34 + 1)), r_661, r_677)) (ix c_164 x_519)).1 →
 (I64 (ix (c_679.set (ix c_164 x_519).toNat ((ix order_19 (level_34 + 1)), r_661, r_677)) (ix c_164 x_519)).2.1 →
 (I64 (ix (c_679.set (ix c_164 x_519).toNat ((ix order_19 (level_34 + 1)), r_661, r_677)) (ix c_164 x_519)).2.2 →
 I64 (x_519 + 1) ∧
 xnext_630 ((c_679.set (ix c_164 x_519).toNat ((ix order_19 (level_34 + 1)), r_661, r_677)), c_683, (mset m_687 ((ix (c_679.set (ix c_164 x_519).toNat ((ix order_19 (level_34 + 1)), r_661, r_677)) (ix c_164 x_519)).1, (ix (c_679.set (ix c_164 x_519).toNat ((ix order_19 (level_34 + 1)), r_661, r_677)) (ix c_164 x_519)).2.1, (ix (c_679.set (ix c_164 x_519).toNat ((ix order_19 (level_34 + 1)), r_661, r_677)) (ix c_164 x_519)).2.2) (ix c_164 x_519)), (x_519 + 1)))))))))) ∧
 (¬ (x_519 < (c_164.length : Int)) →
 Q true c_507 c_512 c_516 ((order_19.set level_34.toNat (ix order_19 (level_34 + 1))).set (level_34 + 1).toNat (ix order_19 level_34)) ((level_24.set (ix order_19 level_34).toNat (level_34 + 1)).set (ix order_19 (level_34 + 1)).toNat level_34) ([] : M3)))))) ∧
 (∀ (k_743 : (Int × Int × Int)) (e_744 : Int), (k_743, e_744) ∈ xby_14 → k_743 ∉ sn_116 → I64 k_743.1 ∧ I64 k_743.2.1 ∧ I64 k_743.2.2 → I64 e_744 →
 VMeet (σ := Bool) (fun x_763 =>
 (x_763 = true →
 Room (ask_112.length + ([e_744]).length) 8 ∧
 xnext_162 ((ask_112 ++ ([e_744])), (k_743 :: sn_116))) ∧
 (x_763 = false →
 xnext_162 (ask_112, (k_743 :: sn_116)))) fun J_764 =>
 (k_743.1 = (ix order_19 level_34) →
 V_asks nodes_4 free_9 xby_14 order_19 level_24 memo_29 k_743.2.1 (ix order_19 (level_34 + 1)) fun r_768 =>
 (r_768 = true →
 J_764 true) ∧
 (r_768 = false →
 V_asks nodes_4 free_9 xby_14 order_19 level_24 memo_29 k_743.2.2 (ix order_19 (level_34 + 1)) fun r_771 =>
 J_764 r_771)) ∧
 (¬ (k_743.1 = (ix order_19 level_34)) →
 J_764 false)))))) fun J_43 =>
 (level_34 < 0 →
 J_43 true) ∧
 (¬ (level_34 < 0) →
 (Len order_19 →
 I64 ((order_19.length : Int) - 1) ∧
 J_43 (decide (((order_19.length : Int) - 1) ≤ level_34))))

/-- cmp.isNaN[int]: what is to be shown. -/
def V_isNaN (x_1 : Int) (Q : Bool → Prop) : Prop :=
 Q (decide (x_1 ≠ x_1))

/-- cmp.Compare[int]: what is to be shown. -/
def V_cmpI (x_1 : Int) (y_3 : Int) (Q : Int → Prop) : Prop :=
 V_isNaN x_1 fun r_5 =>
 V_isNaN y_3 fun r_7 =>
 (r_5 = true →
 (r_7 = true →
 Q 0) ∧
 (r_7 = false →
 Q (-1))) ∧
 (r_5 = false →
 (r_7 = true →
 Q 1) ∧
 (r_7 = false →
 (x_1 < y_3 →
 Q (-1)) ∧
 (¬ (x_1 < y_3) →
 (y_3 < x_1 →
 Q 1) ∧
 (¬ (y_3 < x_1) →
 Q 0))))

/-- (*bdd.Table).Sift$1: what is to be shown. -/
def V_Sift1 (i_1 : Int) (k_3 : Int) (c_5_8 : LI) (Q : Int → Prop) : Prop :=
 In k_3 c_5_8 ∧
 (I64 (ix c_5_8 k_3) →
 In i_1 c_5_8 ∧
 (I64 (ix c_5_8 i_1) →
 V_cmpI (ix c_5_8 k_3) (ix c_5_8 i_1) fun r_39 =>
 Q r_39))

/-- slices.insertionSortCmpFunc[int]: what is to be shown. -/
def V_insSF (data_1 : LI) (a_6 : Int) (b_8 : Int) (c_11_14 : LI) (Q : LI → Prop) : Prop :=
 I64 (a_6 + 1) ∧
 VLoop (σ := LI × Int) (data_1, (a_6 + 1)) fun (data_368, i_371) xnext_724 =>
 (i_371 < b_8 →
 VLoop (σ := LI × Int) (data_368, i_371) fun (data_838, j_841) xnext_957 =>
 VMeet (σ := Bool) (fun x_982 =>
 (x_982 = true →
 I64 (j_841 - 1) ∧
 I64 (j_841 - 1) ∧
 In (j_841 - 1) data_838 ∧
 (I64 (ix data_838 (j_841 - 1)) →
 In j_841 data_838 ∧
 (I64 (ix data_838 j_841) →
 In j_841 data_838 ∧
 In (j_841 - 1) (data_838.set j_841.toNat (ix data_838 (j_841 - 1))) ∧
 I64 (j_841 - 1) ∧
 xnext_957 (((data_838.set j_841.toNat (ix data_838 (j_841 - 1))).set (j_841 - 1).toNat (ix data_838 j_841)), (j_841 - 1))))) ∧
 (x_982 = false →
 I64 (i_371 + 1) ∧
 xnext_724 (data_838, (i_371 + 1)))) fun J_983 =>
 (a_6 < j_841 →
 In j_841 data_838 ∧
 (I64 (ix data_838 j_841) →
 I64 (j_841 - 1) ∧
 In (j_841 - 1) data_838 ∧
 (I64 (ix data_838 (j_841 - 1)) →
 ∃ (r_1003 : Int), V_Sift1 (ix data_838 j_841) (ix data_838 (j_841 - 1)) c_11_14 (fun y0 => y0 = r_1003) ∧ I64 r_1003 ∧
 J_983 (decide (r_1003 < 0))))) ∧
 (¬ (a_6 < j_841) →
 J_983 false)) ∧
 (¬ (i_371 < b_8) →
 Q data_368)

/-- slices.symMergeCmpFunc[int]: what is to be shown. -/
def V_symSF (data_1 : LI) (a_6 : Int) (m_8 : Int) (b_10 : Int) (c_13_16 : LI) (Q : LI → Prop) : Prop :=
 False

/-- slices.stableCmpFunc[int]: what is to be shown. -/
def V_stabSF (data_1 : LI) (n_6 : Int) (c_9_12 : LI) (Q : LI → Prop) : Prop :=
 VLoop (σ := LI × Int × Int) (data_1, 0, 20) fun (data_23, a_26, b_28) xnext_40 =>
 (b_28 ≤ n_6 →
 V_insSF data_23 a_26 b_28 c_9_12 fun c_42 =>
 I64 (b_28 + 20) ∧
 xnext_40 (c_42, b_28, (b_28 + 20))) ∧
 (¬ (b_28 ≤ n_6) →
 V_insSF data_23 a_26 n_6 c_9_12 fun c_48 =>
 VLoop (σ := LI × Int) (c_48, 20) fun (data_126, blockSize_129) xnext_207 =>
 (blockSize_129 < n_6 →
 I64 (2 * blockSize_129) ∧
 VLoop (σ := LI × Int × Int) (data_126, 0, (2 * blockSize_129)) fun (data_223, a_226, b_228) xnext_244 =>
 (b_228 ≤ n_6 →
 I64 (a_226 + blockSize_129) ∧
 V_symSF data_223 a_226 (a_226 + blockSize_129) b_228 c_9_12 fun c_248 =>
 I64 (2 * blockSize_129) ∧
 I64 (b_228 + (2 * blockSize_129)) ∧
 xnext_244 (c_248, b_228, (b_228 + (2 * blockSize_129)))) ∧
 (¬ (b_228 ≤ n_6) →
 VMeet (σ := LI) (fun data_264 =>
 I64 (blockSize_129 * 2) ∧
 xnext_207 (data_264, (blockSize_129 * 2))) fun J_267 =>
 I64 (a_226 + blockSize_129) ∧
 ((a_226 + blockSize_129) < n_6 →
 V_symSF data_223 a_226 (a_226 + blockSize_129) n_6 c_9_12 fun c_272 =>
 J_267 c_272) ∧
 (¬ ((a_226 + blockSize_129) < n_6) →
 J_267 data_223))) ∧
 (¬ (blockSize_129 < n_6) →
 Q data_126))

/-- slices.SortStableFunc[[]int,int]: what is to be shown. -/
def V_SortSF (x_1 : LI) (c_7_10 : LI) (Q : LI → Prop) : Prop :=
 (Len x_1 →
 V_stabSF x_1 (x_1.length : Int) c_7_10 fun c_14 =>
 Q c_14)

/-- (*bdd.Table).Sift: what is to be shown. -/
def V_Sift (nodes_4 : N3) (free_9 : LI) (xby_14 : M3) (order_19 : LI) (level_24 : LI) (memo_29 : M3) (fs_34 : LI) (Q : N3 → LI → M3 → LI → LI → M3 → Prop) : Prop :=
 (Len order_19 →
 Made (order_19.length : Int) 8 ∧
 V_all nodes_4 free_9 xby_14 order_19 level_24 memo_29 fs_34 fun r_46 =>
 VLoop (σ := LI × LI) ((List.replicate (order_19.length : Int).toNat (0 : Int)), ([] : LI)) fun (c_116, sn_120) xnext_184 =>
 ((∀ p ∈ r_46, p.1 ∈ sn_120) →
 (Len order_19 →
 Made (order_19.length : Int) 8 ∧
 (Len (List.replicate (order_19.length : Int).toNat (0 : Int)) →
 VLoop (σ := LI × Int) ((List.replicate (order_19.length : Int).toNat (0 : Int)), 0) fun (vars_203, x_207) xnext_220 =>
 (x_207 < ((List.replicate (order_19.length : Int).toNat (0 : Int)).length : Int) →
 In x_207 vars_203 ∧
 I64 (x_207 + 1) ∧
 xnext_220 ((vars_203.set x_207.toNat x_207), (x_207 + 1))) ∧
 (¬ (x_207 < ((List.replicate (order_19.length : Int).toNat (0 : Int)).length : Int)) →
 V_SortSF vars_203 c_116 fun c_232 =>
 VLoop (σ := M1 × N3) (([] : M1), ([] : N3)) fun (old_258, sn_261) xnext_280 =>
 ((∀ p ∈ xby_14, p.1 ∈ sn_261) →
 (Len c_232 →
 VLoop (σ := N3 × LI × M3 × LI × LI × M3 × Int) (nodes_4, free_9, xby_14, order_19, level_24, memo_29, 0) fun (c_903, c_908, c_912, c_916, c_921, c_925, x_928) xnext_1551 =>
 (x_928 < (c_232.length : Int) →
 In x_928 c_232 ∧
 (I64 (ix c_232 x_928) →
 VLoop (σ := N3 × LI × M3 × LI × LI × M3) (c_903, c_908, c_912, c_916, c_921, c_925) fun (c_1604, c_1609, c_1613, c_1617, c_1622, c_1626) xnext_1675 =>
 In (ix c_232 x_928) c_1622 ∧
 (I64 (ix c_1622 (ix c_232 x_928)) →
 (0 < (ix c_1622 (ix c_232 x_928)) →
 In (ix c_232 x_928) c_1622 ∧
 (I64 (ix c_1622 (ix c_232 x_928)) →
 I64 ((ix c_1622 (ix c_232 x_928)) - 1) ∧
 V_Swap c_1604 c_1609 c_1613 c_1617 c_1622 c_1626 ((ix c_1622 (ix c_232 x_928)) - 1) fun r_1691 c_1692 c_1696 m_1700 c_1703 c_1707 m_1711 =>
 xnext_1675 (c_1692, c_1696, m_1700, c_1703, c_1707, m_1711))) ∧
 (¬ (0 < (ix c_1622 (ix c_232 x_928))) →
 V_Size c_1604 c_1609 c_1613 c_1617 c_1622 c_1626 fs_34 fun r_1719 =>
 VLoop (σ := N3 × LI × M3 × LI × LI × M3 × Int × Int) (c_1604, c_1609, c_1613, c_1617, c_1622, c_1626, 0, r_1719) fun (c_1779, c_1784, c_1788, c_1792, c_1797, c_1801, best_1804, least_1806) xnext_1866 =>
 In (ix c_232 x_928) c_1797 ∧
 (I64 (ix c_1797 (ix c_232 x_928)) →
 I64 ((ix c_1797 (ix c_232 x_928)) + 1) ∧
 (Len c_1792 →
 (((ix c_1797 (ix c_232 x_928)) + 1) < (c_1792.length : Int) →
 In (ix c_232 x_928) c_1797 ∧
 (I64 (ix c_1797 (ix c_232 x_928)) →
 V_Swap c_1779 c_1784 c_1788 c_1792 c_1797 c_1801 (ix c_1797 (ix c_232 x_928)) fun r_1883 c_1884 c_1888 m_1892 c_1895 c_1899 m_1903 =>
 V_Size c_1884 c_1888 m_1892 c_1895 c_1899 m_1903 fs_34 fun r_1911 =>
 (r_1911 < least_1806 →
 In (ix c_232 x_928) c_1899 ∧
 (I64 (ix c_1899 (ix c_232 x_928)) →
 xnext_1866 (c_1884, c_1888, m_1892, c_1895, c_1899, m_1903, (ix c_1899 (ix c_232 x_928)), r_1911))) ∧
 (¬ (r_1911 < least_1806) →
 xnext_1866 (c_1884, c_1888, m_1892, c_1895, c_1899, m_1903, best_1804, least_1806)))) ∧
 (¬ (((ix c_1797 (ix c_232 x_928)) + 1) < (c_1792.length : Int)) →
 VLoop (σ := N3 × LI × M3 × LI × LI × M3) (c_1779, c_1784, c_1788, c_1792, c_1797, c_1801) fun (c_1967, c_1972, c_1976, c_1980, c_1985, c_1989) xnext_2038 =>
 In (ix c_232 x_928) c_1985 ∧
 (I64 (ix c_1985 (ix c_232 x_928)) →
 (best_1804 < (ix c_1985 (ix c_232 x_928)) →
 In (ix c_232 x_928) c_1985 ∧
 (I64 (ix c_1985 (ix c_232 x_928)) →
 I64 ((ix c_1985 (ix c_232 x_928)) - 1) ∧
 V_Swap c_1967 c_1972 c_1976 c_1980 c_1985 c_1989 ((ix c_1985 (ix c_232 x_928)) - 1) fun r_2054 c_2055 c_2059 m_2063 c_2066 c_2070 m_2074 =>
 xnext_2038 (c_2055, c_2059, m_2063, c_2066, c_2070, m_2074))) ∧
 (¬ (best_1804 < (ix c_1985 (ix c_232 x_928))) →
 VLoop (σ := M1 × LI) (([] : M1), ([] : LI)) fun (c_2108, sn_2111) xnext_2132 =>
 ((∀ p ∈ old_258, p.1 ∈ sn_2111) →
 V_forgetS c_1967 c_1972 c_1976 c_1980 c_1985 c_1989 c_2108 fun c_2134 m_2138 m_2141 =>
 I64 (x_928 + 1) ∧
 xnext_1551 (c_1967, c_2134, m_2138, c_1980, c_1985, m_2141, (x_928 + 1))) ∧
 (∀ (k_2148 : Int) (e_2149 : Int), (k_2148, e_2149) ∈ old_258 → k_2148 ∉ sn_2111 → I64 k_2148 → I64 e_2149 →
 ∃ mf, V_below mf c_1967 c_1972 c_1976 c_1980 c_1985 c_1989 k_2148 c_2108 fun m_2159 =>
 xnext_2132 (m_2159, (k_2148 :: sn_2111)))))))))))) ∧
 (¬ (x_928 < (c_232.length : Int)) →
 Q c_903 c_908 c_912 c_916 c_921 c_925))) ∧
 (∀ (k_2172 : (Int × Int × Int)) (e_2173 : Int), (k_2172, e_2173) ∈ xby_14 → k_2172 ∉ sn_261 → I64 k_2172.1 ∧ I64 k_2172.2.1 ∧ I64 k_2172.2.2 → I64 e_2173 →
 xnext_280 ((mset old_258 e_2173 1), (k_2172 :: sn_261))))))) ∧
 (∀ (k_2188 : Int) (e_2189 : Int), (k_2188, e_2189) ∈ r_46 → k_2188 ∉ sn_120 → I64 k_2188 → I64 e_2189 →
 In k_2188 nodes_4 ∧
 (I64 ((ix nodes_4 k_2188).1) →
 In ((ix nodes_4 k_2188).1) c_116 ∧
 (I64 (ix c_116 ((ix nodes_4 k_2188).1)) →
 I64 ((ix c_116 ((ix nodes_4 k_2188).1)) + 1) ∧
 In ((ix nodes_4 k_2188).1) c_116 ∧
 xnext_184 ((c_116.set ((ix nodes_4 k_2188).1).toNat ((ix c_116 ((ix nodes_4 k_2188).1)) + 1)), (k_2188 :: sn_120))))))

/-- sextantsame.Ints: what is to be shown. -/
def V_sameInts (a_1 : LI) (b_4 : LI) (Q : Bool → Prop) : Prop :=
 (Len a_1 →
 (Len b_4 →
 ((a_1.length : Int) ≠ (b_4.length : Int) →
 Q false) ∧
 (¬ ((a_1.length : Int) ≠ (b_4.length : Int)) →
 VLoop (σ := Int) 0 fun i_29 xnext_52 =>
 (Len a_1 →
 (i_29 < (a_1.length : Int) →
 In i_29 a_1 ∧
 (I64 (ix a_1 i_29) →
 In i_29 b_4 ∧
 (I64 (ix b_4 i_29) →
 ((ix a_1 i_29) ≠ (ix b_4 i_29) →
 Q false) ∧
 (¬ ((ix a_1 i_29) ≠ (ix b_4 i_29)) →
 I64 (i_29 + 1) ∧
 xnext_52 (i_29 + 1))))) ∧
 (¬ (i_29 < (a_1.length : Int)) →
 Q true)))))

/-- sextantsame.Truths: what is to be shown. -/
def V_sameTruths (a_1 : List Bool) (b_4 : List Bool) (Q : Bool → Prop) : Prop :=
 (Len a_1 →
 (Len b_4 →
 ((a_1.length : Int) ≠ (b_4.length : Int) →
 Q false) ∧
 (¬ ((a_1.length : Int) ≠ (b_4.length : Int)) →
 VLoop (σ := Int) 0 fun i_26 xnext_46 =>
 (Len a_1 →
 (i_26 < (a_1.length : Int) →
 In i_26 a_1 ∧
 In i_26 b_4 ∧
 ((!((ix a_1 i_26) == (ix b_4 i_26))) = true →
 Q false) ∧
 ((!((ix a_1 i_26) == (ix b_4 i_26))) = false →
 I64 (i_26 + 1) ∧
 xnext_46 (i_26 + 1))) ∧
 (¬ (i_26 < (a_1.length : Int)) →
 Q true)))))

/-- sextantsame.Spoil: what is to be shown. -/
def V_Spoil (l_1 : LI) (Q : Prop) : Prop :=
 VLoop (σ := LI × Int) (l_1, 0) fun (l_17, i_21) xnext_35 =>
 (Len l_17 →
 (i_21 < (l_17.length : Int) →
 In i_21 l_17 ∧
 I64 (i_21 + 1) ∧
 xnext_35 ((l_17.set i_21.toNat (-77)), (i_21 + 1))) ∧
 (¬ (i_21 < (l_17.length : Int)) →
 Room (l_17.length + ([(-78), (-79)]).length) 8 ∧
 Q))

/-- sextantref8.Const: what is to be shown. -/
def V_rConst (n_1 : Int) (v_3 : Bool) (Q : (List Bool) → Prop) : Prop :=
 ((0 : Int) ≤ n_1 ∧ (n_1 : Int) < 64 ∧ I64 ((1 : Int) * 2 ^ n_1.toNat)) ∧
 Made ((1 : Int) * 2 ^ n_1.toNat) 1 ∧
 VLoop (σ := (List Bool) × Int) ((List.replicate ((1 : Int) * 2 ^ n_1.toNat).toNat false), 0) fun (l_22, i_26) xnext_40 =>
 (Len l_22 →
 (i_26 < (l_22.length : Int) →
 In i_26 l_22 ∧
 I64 (i_26 + 1) ∧
 xnext_40 ((l_22.set i_26.toNat v_3), (i_26 + 1))) ∧
 (¬ (i_26 < (l_22.length : Int)) →
 Q l_22))

/-- sextantref8.Var: what is to be shown. -/
def V_rVar (n_1 : Int) (i_3 : Int) (Q : (List Bool) → Prop) : Prop :=
 ((0 : Int) ≤ n_1 ∧ (n_1 : Int) < 64 ∧ I64 ((1 : Int) * 2 ^ n_1.toNat)) ∧
 Made ((1 : Int) * 2 ^ n_1.toNat) 1 ∧
 VLoop (σ := (List Bool) × Int) ((List.replicate ((1 : Int) * 2 ^ n_1.toNat).toNat false), 0) fun (l_69, k_73) xnext_133 =>
 (Len l_69 →
 (k_73 < (l_69.length : Int) →
 VMeet (σ := (List Bool)) (fun l_159 =>
 I64 (k_73 + 1) ∧
 xnext_133 (l_159, (k_73 + 1))) fun J_163 =>
 (0 ≤ i_3 →
 (i_3 < n_1 →
 ((0 : Int) ≤ i_3 ∧ (i_3 : Int) < 64) ∧
 ((0 : Int) ≤ (k_73.fdiv (2 ^ i_3.toNat)) ∧ (0 : Int) ≤ 1) ∧
 In k_73 l_69 ∧
 J_163 (l_69.set k_73.toNat (decide ((nat2 (· &&& ·) (k_73.fdiv (2 ^ i_3.toNat)) 1) = 1)))) ∧
 (¬ (i_3 < n_1) →
 In k_73 l_69 ∧
 J_163 (l_69.set k_73.toNat false))) ∧
 (¬ (0 ≤ i_3) →
 In k_73 l_69 ∧
 J_163 (l_69.set k_73.toNat false))) ∧
 (¬ (k_73 < (l_69.length : Int)) →
 Q l_69))

/-- sextantref8.Ite: what is to be shown. -/
def V_rIte (f_1 : List Bool) (g_4 : List Bool) (h_7 : List Bool) (Q : (List Bool) → Prop) : Prop :=
 (Len f_1 →
 Made (f_1.length : Int) 1 ∧
 VLoop (σ := (List Bool) × Int) ((List.replicate (f_1.length : Int).toNat false), 0) fun (l_148, k_152) xnext_286 =>
 (Len l_148 →
 (k_152 < (l_148.length : Int) →
 VMeet (σ := (List Bool)) (fun l_349 =>
 I64 (k_152 + 1) ∧
 xnext_286 (l_349, (k_152 + 1))) fun J_353 =>
 In k_152 f_1 ∧
 ((ix f_1 k_152) = true →
 In k_152 g_4 ∧
 ((ix g_4 k_152) = true →
 In k_152 l_148 ∧
 J_353 (l_148.set k_152.toNat true)) ∧
 ((ix g_4 k_152) = false →
 In k_152 f_1 ∧
 ((!(ix f_1 k_152)) = true →
 In k_152 h_7 ∧
 In k_152 l_148 ∧
 J_353 (l_148.set k_152.toNat (ix h_7 k_152))) ∧
 ((!(ix f_1 k_152)) = false →
 In k_152 l_148 ∧
 J_353 (l_148.set k_152.toNat false)))) ∧
 ((ix f_1 k_152) = false →
 In k_152 f_1 ∧
 ((!(ix f_1 k_152)) = true →
 In k_152 h_7 ∧
 In k_152 l_148 ∧
 J_353 (l_148.set k_152.toNat (ix h_7 k_152))) ∧
 ((!(ix f_1 k_152)) = false →
 In k_152 l_148 ∧
 J_353 (l_148.set k_152.toNat false)))) ∧
 (¬ (k_152 < (l_148.length : Int)) →
 Q l_148)))

/-- sextantref8.With: what is to be shown. -/
def V_rWith (f_1 : List Bool) (i_4 : Int) (v_6 : Bool) (Q : (List Bool) → Prop) : Prop :=
 (Len f_1 →
 Made (f_1.length : Int) 1 ∧
 VLoop (σ := (List Bool) × Int) ((List.replicate (f_1.length : Int).toNat false), 0) fun (l_44, k_48) xnext_81 =>
 (Len l_44 →
 (k_48 < (l_44.length : Int) →
 ((0 : Int) ≤ i_4 ∧ (i_4 : Int) < 64 ∧ I64 ((1 : Int) * 2 ^ i_4.toNat)) ∧
 ((0 : Int) ≤ k_48 ∧ (0 : Int) ≤ ((1 : Int) * 2 ^ i_4.toNat)) ∧
 VMeet (σ := Int) (fun xat_90 =>
 In xat_90 f_1 ∧
 In k_48 l_44 ∧
 I64 (k_48 + 1) ∧
 xnext_81 ((l_44.set k_48.toNat (ix f_1 xat_90)), (k_48 + 1))) fun J_92 =>
 ((!v_6) = true →
 ((0 : Int) ≤ i_4 ∧ (i_4 : Int) < 64 ∧ I64 ((1 : Int) * 2 ^ i_4.toNat)) ∧
 I64 ((nat2 (· ||| ·) k_48 ((1 : Int) * 2 ^ i_4.toNat)) - ((1 : Int) * 2 ^ i_4.toNat)) ∧
 J_92 ((nat2 (· ||| ·) k_48 ((1 : Int) * 2 ^ i_4.toNat)) - ((1 : Int) * 2 ^ i_4.toNat))) ∧
 ((!v_6) = false →
 J_92 (nat2 (· ||| ·) k_48 ((1 : Int) * 2 ^ i_4.toNat)))) ∧
 (¬ (k_48 < (l_44.length : Int)) →
 Q l_44)))

/-- sextantref8.Over: what is to be shown. -/
def V_rOver (n_1 : Int) (f_3 : List Bool) (i_6 : Int) (some_8 : Bool) (Q : (List Bool) → Prop) : Prop :=
 ((i_6 < 0) ∨ (n_1 ≤ i_6) →
 Q f_3) ∧
 (¬ ((i_6 < 0) ∨ (n_1 ≤ i_6)) →
 V_rWith f_3 i_6 false fun r_15 =>
 V_rWith f_3 i_6 true fun r_21 =>
 (Len f_3 →
 Made (f_3.length : Int) 1 ∧
 VLoop (σ := (List Bool) × Int) ((List.replicate (f_3.length : Int).toNat false), 0) fun (l_188, k_192) xnext_350 =>
 (Len l_188 →
 (k_192 < (l_188.length : Int) →
 VMeet (σ := (List Bool)) (fun l_425 =>
 I64 (k_192 + 1) ∧
 xnext_350 (l_425, (k_192 + 1))) fun J_429 =>
 In k_192 r_15 ∧
 ((ix r_15 k_192) = true →
 In k_192 r_21 ∧
 ((ix r_21 k_192) = true →
 In k_192 l_188 ∧
 J_429 (l_188.set k_192.toNat true)) ∧
 ((ix r_21 k_192) = false →
 (some_8 = true →
 In k_192 r_15 ∧
 ((ix r_15 k_192) = true →
 In k_192 l_188 ∧
 J_429 (l_188.set k_192.toNat true)) ∧
 ((ix r_15 k_192) = false →
 In k_192 r_21 ∧
 In k_192 l_188 ∧
 J_429 (l_188.set k_192.toNat (ix r_21 k_192)))) ∧
 (some_8 = false →
 In k_192 l_188 ∧
 J_429 (l_188.set k_192.toNat false)))) ∧
 ((ix r_15 k_192) = false →
 (some_8 = true →
 In k_192 r_15 ∧
 ((ix r_15 k_192) = true →
 In k_192 l_188 ∧
 J_429 (l_188.set k_192.toNat true)) ∧
 ((ix r_15 k_192) = false →
 In k_192 r_21 ∧
 In k_192 l_188 ∧
 J_429 (l_188.set k_192.toNat (ix r_21 k_192)))) ∧
 (some_8 = false →
 In k_192 l_188 ∧
 J_429 (l_188.set k_192.toNat false)))) ∧
 (¬ (k_192 < (l_188.length : Int)) →
 Q l_188))))

/-- sextantref8.Let: what is to be shown. -/
def V_rLet (n_1 : Int) (f_3 : List Bool) (i_6 : Int) (g_8 : List Bool) (Q : (List Bool) → Prop) : Prop :=
 ((i_6 < 0) ∨ (n_1 ≤ i_6) →
 Q f_3) ∧
 (¬ ((i_6 < 0) ∨ (n_1 ≤ i_6)) →
 V_rWith f_3 i_6 true fun r_17 =>
 V_rWith f_3 i_6 false fun r_23 =>
 V_rIte g_8 r_17 r_23 fun r_31 =>
 Q r_31)

/-- sextantref8.Same: what is to be shown. -/
def V_rSame (f_1 : List Bool) (g_4 : List Bool) (Q : Bool → Prop) : Prop :=
 (Len f_1 →
 (Len g_4 →
 ((f_1.length : Int) ≠ (g_4.length : Int) →
 Q false) ∧
 (¬ ((f_1.length : Int) ≠ (g_4.length : Int)) →
 VLoop (σ := Int) 0 fun k_26 xnext_46 =>
 (Len f_1 →
 (k_26 < (f_1.length : Int) →
 In k_26 f_1 ∧
 In k_26 g_4 ∧
 ((!((ix f_1 k_26) == (ix g_4 k_26))) = true →
 Q false) ∧
 ((!((ix f_1 k_26) == (ix g_4 k_26))) = false →
 I64 (k_26 + 1) ∧
 xnext_46 (k_26 + 1))) ∧
 (¬ (k_26 < (f_1.length : Int)) →
 Q true)))))

/-- sextantref8.Hangs: what is to be shown. -/
def V_rHangs (f_1 : List Bool) (i_4 : Int) (Q : Bool → Prop) : Prop :=
 VLoop (σ := Int) 0 fun k_24 xnext_46 =>
 (Len f_1 →
 (k_24 < (f_1.length : Int) →
 In k_24 f_1 ∧
 ((0 : Int) ≤ i_4 ∧ (i_4 : Int) < 64 ∧ I64 ((1 : Int) * 2 ^ i_4.toNat)) ∧
 ((0 : Int) ≤ k_24 ∧ (0 : Int) ≤ ((1 : Int) * 2 ^ i_4.toNat)) ∧
 In (nat2 (· ^^^ ·) k_24 ((1 : Int) * 2 ^ i_4.toNat)) f_1 ∧
 ((!((ix f_1 k_24) == (ix f_1 (nat2 (· ^^^ ·) k_24 ((1 : Int) * 2 ^ i_4.toNat))))) = true →
 Q true) ∧
 ((!((ix f_1 k_24) == (ix f_1 (nat2 (· ^^^ ·) k_24 ((1 : Int) * 2 ^ i_4.toNat))))) = false →
 I64 (k_24 + 1) ∧
 xnext_46 (k_24 + 1))) ∧
 (¬ (k_24 < (f_1.length : Int)) →
 Q false))

/-- sextantref8.Count: what is to be shown. -/
def V_rCount (f_1 : List Bool) (Q : Int → Prop) : Prop :=
 VLoop (σ := Int × Int) (0, 0) fun (n_29, k_31) xnext_60 =>
 (Len f_1 →
 (k_31 < (f_1.length : Int) →
 VMeet (σ := Int) (fun n_71 =>
 I64 (k_31 + 1) ∧
 xnext_60 (n_71, (k_31 + 1))) fun J_73 =>
 In k_31 f_1 ∧
 ((ix f_1 k_31) = true →
 I64 (n_29 + 1) ∧
 J_73 (n_29 + 1)) ∧
 ((ix f_1 k_31) = false →
 J_73 n_29)) ∧
 (¬ (k_31 < (f_1.length : Int)) →
 Q n_29))

/-- sextantref8.First: what is to be shown. -/
def V_rFirst (n_1 : Int) (f_3 : List Bool) (Q : (List Bool) → Bool → Prop) : Prop :=
 V_rCount f_3 fun r_7 =>
 (r_7 = 0 →
 Q ([] : List Bool) false) ∧
 (¬ (r_7 = 0) →
 VLoop (σ := (List Bool) × (List Bool) × Int) (f_3, ([] : List Bool), 0) fun (f_119, l_123, i_127) xnext_178 =>
 (i_127 < n_1 →
 V_rWith f_119 i_127 false fun r_180 =>
 V_rCount r_180 fun r_187 =>
 VMeet (σ := (List Bool)) (fun g_201 =>
 Room (l_123.length + ([decide (r_187 = 0)]).length) 1 ∧
 I64 (i_127 + 1) ∧
 xnext_178 (g_201, (l_123 ++ ([decide (r_187 = 0)])), (i_127 + 1))) fun J_205 =>
 (r_187 = 0 →
 V_rWith f_119 i_127 true fun r_207 =>
 J_205 r_207) ∧
 (¬ (r_187 = 0) →
 J_205 r_180)) ∧
 (¬ (i_127 < n_1) →
 Q l_123 true))

/-- sextantref8.joined: what is to be shown. -/
def V_joined (row_1 : B2) (more_6 : B2) (Q : B2 → Prop) : Prop :=
 VLoop (σ := B2 × Int) (row_1, 0) fun (row_295, i_299) xnext_587 =>
 (Len more_6 →
 (i_299 < (more_6.length : Int) →
 VMeet (σ := B2) (fun row_727 =>
 I64 (i_299 + 1) ∧
 xnext_587 (row_727, (i_299 + 1))) fun J_731 =>
 VLoop (σ := Bool × Int) (false, 0) fun (there_771, k_772) xnext_814 =>
 (Len row_295 →
 ((k_772 < (row_295.length : Int)) ∧ ((!there_771) = true) →
 In k_772 row_295 ∧
 In i_299 more_6 ∧
 V_rSame (ix row_295 k_772) (ix more_6 i_299) fun r_846 =>
 I64 (k_772 + 1) ∧
 xnext_814 (r_846, (k_772 + 1))) ∧
 (¬ ((k_772 < (row_295.length : Int)) ∧ ((!there_771) = true)) →
 ((!there_771) = true →
 In i_299 more_6 ∧
 Room (row_295.length + ([(ix more_6 i_299)]).length) 24 ∧
 J_731 (row_295 ++ ([(ix more_6 i_299)]))) ∧
 ((!there_771) = false →
 J_731 row_295)))) ∧
 (¬ (i_299 < (more_6.length : Int)) →
 Q row_295))

/-- sextantref8.Asked: what is to be shown. -/
def V_Asked (fs_1 : B2) (order_4 : LI) (Q : LI → Prop) : Prop :=
 V_joined ([] : B2) fs_1 fun r_10 =>
 VLoop (σ := B2 × LI × Int) (r_10, ([] : LI), 0) fun (row_1379, ask_1384, k_1388) xnext_2071 =>
 (Len row_1379 →
 (k_1388 < (row_1379.length : Int) →
 VMeet (σ := B2 × LI) (fun (row_2407, ask_2412) =>
 I64 (k_1388 + 1) ∧
 xnext_2071 (row_2407, ask_2412, (k_1388 + 1))) fun J_2416 =>
 VLoop (σ := Int × Int) ((-1), 0) fun (xat_2508, i_2510) xnext_2604 =>
 (Len order_4 →
 ((i_2510 < (order_4.length : Int)) ∧ (xat_2508 < 0) →
 VMeet (σ := Int) (fun xat_2650 =>
 I64 (i_2510 + 1) ∧
 xnext_2604 (xat_2650, (i_2510 + 1))) fun J_2652 =>
 In k_1388 row_1379 ∧
 In i_2510 order_4 ∧
 (I64 (ix order_4 i_2510) →
 V_rHangs (ix row_1379 k_1388) (ix order_4 i_2510) fun r_2681 =>
 (r_2681 = true →
 In i_2510 order_4 ∧
 (I64 (ix order_4 i_2510) →
 J_2652 (ix order_4 i_2510))) ∧
 (r_2681 = false →
 J_2652 xat_2508))) ∧
 (¬ ((i_2510 < (order_4.length : Int)) ∧ (xat_2508 < 0)) →
 Room (ask_1384.length + ([xat_2508]).length) 8 ∧
 (0 ≤ xat_2508 →
 In k_1388 row_1379 ∧
 V_rWith (ix row_1379 k_1388) xat_2508 false fun r_2709 =>
 In k_1388 row_1379 ∧
 V_rWith (ix row_1379 k_1388) xat_2508 true fun r_2720 =>
 V_joined row_1379 ([r_2709, r_2720]) fun r_2739 =>
 J_2416 (r_2739, (ask_1384 ++ ([xat_2508])))) ∧
 (¬ (0 ≤ xat_2508) →
 J_2416 (row_1379, (ask_1384 ++ ([xat_2508]))))))) ∧
 (¬ (k_1388 < (row_1379.length : Int)) →
 Q ask_1384))

/-- sextantref8.Size: what is to be shown. -/
def V_rSize (fs_1 : B2) (order_4 : LI) (Q : Int → Prop) : Prop :=
 V_Asked fs_1 order_4 fun r_7 =>
 VLoop (σ := Int × Int) (0, 0) fun (n_42, i_44) xnext_77 =>
 (Len r_7 →
 (i_44 < (r_7.length : Int) →
 VMeet (σ := Int) (fun n_90 =>
 I64 (i_44 + 1) ∧
 xnext_77 (n_90, (i_44 + 1))) fun J_92 =>
 In i_44 r_7 ∧
 (I64 (ix r_7 i_44) →
 (0 ≤ (ix r_7 i_44) →
 I64 (n_42 + 1) ∧
 J_92 (n_42 + 1)) ∧
 (¬ (0 ≤ (ix r_7 i_44)) →
 J_92 n_42))) ∧
 (¬ (i_44 < (r_7.length : Int)) →
 Q n_42))

/-- sextantref8.without: what is to be shown. -/
def V_without (order_1 : LI) (v_4 : Int) (Q : LI → Prop) : Prop :=
 VLoop (σ := LI × Int) (([] : LI), 0) fun (l_67, i_71) xnext_133 =>
 (Len order_1 →
 (i_71 < (order_1.length : Int) →
 VMeet (σ := LI) (fun l_160 =>
 I64 (i_71 + 1) ∧
 xnext_133 (l_160, (i_71 + 1))) fun J_164 =>
 In i_71 order_1 ∧
 (I64 (ix order_1 i_71) →
 ((ix order_1 i_71) ≠ v_4 →
 In i_71 order_1 ∧
 (I64 (ix order_1 i_71) →
 Room (l_67.length + ([(ix order_1 i_71)]).length) 8 ∧
 J_164 (l_67 ++ ([(ix order_1 i_71)])))) ∧
 (¬ ((ix order_1 i_71) ≠ v_4) →
 J_164 l_67))) ∧
 (¬ (i_71 < (order_1.length : Int)) →
 Q l_67))

/-- sextantref8.at: what is to be shown. -/
def V_rat (order_1 : LI) (v_4 : Int) (place_6 : Int) (Q : LI → Prop) : Prop :=
 (0 ≤ place_6 ∧ place_6 ≤ (order_1.length : Int)) ∧
 Room (([] : LI).length + (order_1.take place_6.toNat).length) 8 ∧
 Room ((order_1.take place_6.toNat).length + ([v_4]).length) 8 ∧
 (0 ≤ place_6 ∧ place_6 ≤ (order_1.length : Int)) ∧
 Room (((order_1.take place_6.toNat) ++ ([v_4])).length + (order_1.drop place_6.toNat).length) 8 ∧
 Q (((order_1.take place_6.toNat) ++ ([v_4])) ++ (order_1.drop place_6.toNat))

/-- sextantref8.Sift: what is to be shown. -/
def V_rSift (fs_1 : B2) (order_4 : LI) (Q : LI → Prop) : Prop :=
 (Len order_4 →
 Made (order_4.length : Int) 8 ∧
 V_Asked fs_1 order_4 fun r_17 =>
 VLoop (σ := LI × Int) ((List.replicate (order_4.length : Int).toNat (0 : Int)), 0) fun (asks_160, i_164) xnext_302 =>
 (Len r_17 →
 (i_164 < (r_17.length : Int) →
 VMeet (σ := LI) (fun asks_367 =>
 I64 (i_164 + 1) ∧
 xnext_302 (asks_367, (i_164 + 1))) fun J_371 =>
 In i_164 r_17 ∧
 (I64 (ix r_17 i_164) →
 (0 ≤ (ix r_17 i_164) →
 In i_164 r_17 ∧
 (I64 (ix r_17 i_164) →
 In i_164 r_17 ∧
 (I64 (ix r_17 i_164) →
 In (ix r_17 i_164) asks_160 ∧
 (I64 (ix asks_160 (ix r_17 i_164)) →
 I64 ((ix asks_160 (ix r_17 i_164)) + 1) ∧
 In (ix r_17 i_164) asks_160 ∧
 J_371 (asks_160.set (ix r_17 i_164).toNat ((ix asks_160 (ix r_17 i_164)) + 1)))))) ∧
 (¬ (0 ≤ (ix r_17 i_164)) →
 J_371 asks_160))) ∧
 (¬ (i_164 < (r_17.length : Int)) →
 Made (order_4.length : Int) 1 ∧
 VLoop (σ := LI × (List Bool) × Int) (order_4, (List.replicate (order_4.length : Int).toNat false), 0) fun (order_946, done_951, k_955) xnext_1463 =>
 (k_955 < (order_4.length : Int) →
 VLoop (σ := Int × Int) ((-1), 0) fun (v_1565, i_1567) xnext_1671 =>
 (i_1567 < (order_4.length : Int) →
 VMeet (σ := Int) (fun v_1719 =>
 I64 (i_1567 + 1) ∧
 xnext_1671 (v_1719, (i_1567 + 1))) fun J_1721 =>
 VMeet (σ := Bool) (fun x_1744 =>
 (x_1744 = true →
 J_1721 i_1567) ∧
 (x_1744 = false →
 J_1721 v_1565)) fun J_1745 =>
 In i_1567 done_951 ∧
 ((!(ix done_951 i_1567)) = true →
 (v_1565 < 0 →
 J_1745 true) ∧
 (¬ (v_1565 < 0) →
 In i_1567 asks_160 ∧
 (I64 (ix asks_160 i_1567) →
 In v_1565 asks_160 ∧
 (I64 (ix asks_160 v_1565) →
 J_1745 (decide ((ix asks_160 v_1565) < (ix asks_160 i_1567))))))) ∧
 ((!(ix done_951 i_1567)) = false →
 J_1745 false)) ∧
 (¬ (i_1567 < (order_4.length : Int)) →
 In v_1565 done_951 ∧
 V_without order_946 v_1565 fun r_1777 =>
 VLoop (σ := LI × Int × Int) (order_946, (-1), 0) fun (order_1841, best_1845, p_1847) xnext_1906 =>
 (p_1847 < (order_4.length : Int) →
 VMeet (σ := LI × Int) (fun (order_1930, best_1934) =>
 I64 (p_1847 + 1) ∧
 xnext_1906 (order_1930, best_1934, (p_1847 + 1))) fun J_1936 =>
 V_rat r_1777 v_1565 p_1847 fun r_1939 =>
 V_rSize fs_1 r_1939 fun r_1948 =>
 ((best_1845 < 0) ∨ (r_1948 < best_1845) →
 J_1936 (r_1939, r_1948)) ∧
 (¬ ((best_1845 < 0) ∨ (r_1948 < best_1845)) →
 J_1936 (order_1841, best_1845))) ∧
 (¬ (p_1847 < (order_4.length : Int)) →
 I64 (k_955 + 1) ∧
 xnext_1463 (order_1841, (done_951.set v_1565.toNat true), (k_955 + 1))))) ∧
 (¬ (k_955 < (order_4.length : Int)) →
 Q order_946))))

/-- sextantlaw7.pick: what is to be shown. -/
def V_pick (c_1 : Int) (n_3 : Int) (Q : Int → Prop) : Prop :=
 VMeet (σ := Int) (fun c_10 =>
 ((n_3 : Int) ≠ 0) ∧
 Q (c_10.tmod n_3)) fun J_12 =>
 (c_1 < 0 →
 I64 (c_1 + 1) ∧
 I64 (-(c_1 + 1)) ∧
 J_12 (-(c_1 + 1))) ∧
 (¬ (c_1 < 0) →
 J_12 c_1)

/-- sextantlaw7.world: what is to be shown. -/
def V_world (n_1 : Int) (Q : (Option (N3 × LI × M3 × LI × LI × M3 × Int × LI × B2 × LI × B2)) → Prop) : Prop :=
 V_New n_1 fun r_3 r_9 =>
 (r_3 = none →
 VMeet (σ := Unit) (fun _ =>
 Q none) fun J_12 =>
 (r_9 ≠ none →
 J_12 ()) ∧
 (¬ (r_9 ≠ none) →
 J_12 ())) ∧
 (∀ (y_8_0 : N3) (y_8_1 : LI) (y_8_2 : M3) (y_8_3 : LI) (y_8_4 : LI) (y_8_5 : M3), r_3 = some (y_8_0, y_8_1, y_8_2, y_8_3, y_8_4, y_8_5) →
 VMeet (σ := Bool) (fun x_29 =>
 (x_29 = true →
 Q none) ∧
 (x_29 = false →
 VLoop (σ := LI × Int) (([] : LI), 0) fun (c_53, i_57) xnext_74 =>
 (i_57 < n_1 →
 Room (c_53.length + ([i_57]).length) 8 ∧
 I64 (i_57 + 1) ∧
 xnext_74 ((c_53 ++ ([i_57])), (i_57 + 1))) ∧
 (¬ (i_57 < n_1) →
 V_False_ y_8_0 y_8_1 y_8_2 y_8_3 y_8_4 y_8_5 fun r_87 =>
 V_True_ y_8_0 y_8_1 y_8_2 y_8_3 y_8_4 y_8_5 fun r_90 =>
 V_rConst n_1 false fun r_93 =>
 V_rConst n_1 true fun r_99 =>
 Q (some (y_8_0, y_8_1, y_8_2, y_8_3, y_8_4, y_8_5, n_1, [r_87, r_90], [r_93, r_99], c_53, ([] : B2)))))) fun J_30 =>
 (r_9 ≠ none →
 J_30 true) ∧
 (¬ (r_9 ≠ none) →
 J_30 false))

/-- (*sextantlaw7.World).made: what is to be shown. -/
def V_wmade (nodes_7 : N3) (free_12 : LI) (xby_17 : M3) (order_22 : LI) (level_27 : LI) (memo_32 : M3) (n_37 : Int) (nodes_39 : LI) (fs_44 : B2) (order_49 : LI) (given_54 : B2) (Kind_60 : Int) (A_62 : Int) (B_64 : Int) (C_66 : Int) (Vars_68 : LI) (At_71 : List Bool) (Q : Int → (List Bool) → Bool → N3 → LI → M3 → M3 → Prop) : Prop :=
 (Len nodes_39 →
 V_pick A_62 (nodes_39.length : Int) fun r_78 =>
 V_pick B_64 (nodes_39.length : Int) fun r_81 =>
 V_pick C_66 (nodes_39.length : Int) fun r_84 =>
 In r_78 nodes_39 ∧
 (I64 (ix nodes_39 r_78) →
 In r_81 nodes_39 ∧
 (I64 (ix nodes_39 r_81) →
 In r_84 nodes_39 ∧
 (I64 (ix nodes_39 r_84) →
 In r_78 fs_44 ∧
 In r_81 fs_44 ∧
 In r_84 fs_44 ∧
 In 0 fs_44 ∧
 In 1 fs_44 ∧
 Room (([] : LI).length + Vars_68.length) 8 ∧
 (Kind_60 = 1 →
 V_Var nodes_7 free_12 xby_17 order_22 level_27 memo_32 A_62 fun r_152 c_154 c_158 m_162 =>
 V_rVar n_37 A_62 fun r_182 =>
 Q r_152 r_182 true c_154 c_158 m_162 memo_32) ∧
 (¬ (Kind_60 = 1) →
 (Kind_60 = 2 →
 ∃ mf, V_Ite mf nodes_7 free_12 xby_17 order_22 level_27 memo_32 (ix nodes_39 r_78) (ix nodes_39 r_81) (ix nodes_39 r_84) fun r_194 c_196 c_200 m_204 m_207 =>
 V_rIte (ix fs_44 r_78) (ix fs_44 r_81) (ix fs_44 r_84) fun r_213 =>
 Q r_194 r_213 true c_196 c_200 m_204 m_207) ∧
 (¬ (Kind_60 = 2) →
 (Kind_60 = 3 →
 V_Not nodes_7 free_12 xby_17 order_22 level_27 memo_32 (ix nodes_39 r_78) fun r_223 c_225 c_229 m_233 m_236 =>
 V_rIte (ix fs_44 r_78) (ix fs_44 0) (ix fs_44 1) fun r_242 =>
 Q r_223 r_242 true c_225 c_229 m_233 m_236) ∧
 (¬ (Kind_60 = 3) →
 (Kind_60 = 4 →
 V_And nodes_7 free_12 xby_17 order_22 level_27 memo_32 (ix nodes_39 r_78) (ix nodes_39 r_81) fun r_252 c_254 c_258 m_262 m_265 =>
 V_rIte (ix fs_44 r_78) (ix fs_44 r_81) (ix fs_44 0) fun r_271 =>
 Q r_252 r_271 true c_254 c_258 m_262 m_265) ∧
 (¬ (Kind_60 = 4) →
 (Kind_60 = 5 →
 V_Or nodes_7 free_12 xby_17 order_22 level_27 memo_32 (ix nodes_39 r_78) (ix nodes_39 r_81) fun r_281 c_283 c_287 m_291 m_294 =>
 V_rIte (ix fs_44 r_78) (ix fs_44 1) (ix fs_44 r_81) fun r_300 =>
 Q r_281 r_300 true c_283 c_287 m_291 m_294) ∧
 (¬ (Kind_60 = 5) →
 (Kind_60 = 6 →
 V_Xor nodes_7 free_12 xby_17 order_22 level_27 memo_32 (ix nodes_39 r_78) (ix nodes_39 r_81) fun r_310 c_312 c_316 m_320 m_323 =>
 V_rIte (ix fs_44 r_81) (ix fs_44 0) (ix fs_44 1) fun r_329 =>
 V_rIte (ix fs_44 r_78) r_329 (ix fs_44 r_81) fun r_336 =>
 Q r_310 r_336 true c_312 c_316 m_320 m_323) ∧
 (¬ (Kind_60 = 6) →
 VMeet (σ := Bool) (fun x_350 =>
 (x_350 = true →
 VMeet (σ := N3 × LI × M3 × M3 × Int) (fun (c_403, c_408, c_412, c_415, v_418) =>
 VLoop (σ := (List Bool) × Int) ((ix fs_44 r_78), 0) fun (f_562, i_565) xnext_614 =>
 (Len Vars_68 →
 (i_565 < (Vars_68.length : Int) →
 In i_565 Vars_68 ∧
 (I64 (ix Vars_68 i_565) →
 V_rOver n_37 f_562 (ix Vars_68 i_565) (decide (Kind_60 = 7)) fun r_650 =>
 I64 (i_565 + 1) ∧
 xnext_614 (r_650, (i_565 + 1)))) ∧
 (¬ (i_565 < (Vars_68.length : Int)) →
 V_sameInts Vars_68 Vars_68 fun r_660 =>
 Q v_418 f_562 r_660 c_403 c_408 c_412 c_415))) fun J_420 =>
 (Kind_60 = 7 →
 V_Exists nodes_7 free_12 xby_17 order_22 level_27 memo_32 (ix nodes_39 r_78) Vars_68 fun r_424 c_426 c_430 m_434 m_437 =>
 J_420 (c_426, c_430, m_434, m_437, r_424)) ∧
 (¬ (Kind_60 = 7) →
 V_Forall nodes_7 free_12 xby_17 order_22 level_27 memo_32 (ix nodes_39 r_78) Vars_68 fun r_446 c_448 c_452 m_456 m_459 =>
 J_420 (c_448, c_452, m_456, m_459, r_446))) ∧
 (x_350 = false →
 (Kind_60 = 9 →
 V_Let nodes_7 free_12 xby_17 order_22 level_27 memo_32 (ix nodes_39 r_78) B_64 (ix nodes_39 r_84) fun r_683 c_685 c_689 m_693 m_696 =>
 V_rLet n_37 (ix fs_44 r_78) B_64 (ix fs_44 r_84) fun r_720 =>
 Q r_683 r_720 true c_685 c_689 m_693 m_696) ∧
 (¬ (Kind_60 = 9) →
 Q (ix nodes_39 r_78) (ix fs_44 r_78) false nodes_7 free_12 xby_17 memo_32))) fun J_351 =>
 (Kind_60 = 7 →
 J_351 (decide (Kind_60 = 7))) ∧
 (¬ (Kind_60 = 7) →
 J_351 (decide (Kind_60 = 8)))))))))))))

/-- (*sextantlaw7.World).turned: what is to be shown. -/
def V_turned (nodes_7 : N3) (free_12 : LI) (xby_17 : M3) (order_22 : LI) (level_27 : LI) (memo_32 : M3) (n_37 : Int) (nodes_39 : LI) (fs_44 : B2) (order_49 : LI) (given_54 : B2) (Kind_60 : Int) (A_62 : Int) (B_64 : Int) (C_66 : Int) (Vars_68 : LI) (At_71 : List Bool) (Q : Bool → N3 → LI → M3 → LI → LI → M3 → LI → B2 → LI → B2 → Prop) : Prop :=
 (Len nodes_39 →
 V_pick A_62 (nodes_39.length : Int) fun r_77 =>
 V_pick B_64 (nodes_39.length : Int) fun r_80 =>
 VMeet (σ := N3 × LI × M3 × LI × LI × M3 × LI × B2 × LI × B2) (fun (c_612, c_617, c_621, c_625, c_630, c_634, c_638, c_643, c_648, c_653) =>
 V_Order c_612 c_617 c_621 c_625 c_630 c_634 fun r_1185 =>
 V_sameInts r_1185 c_648 fun r_1193 =>
 V_Spoil r_1185 (
 Q r_1193 c_612 c_617 c_621 c_625 c_630 c_634 c_638 c_643 c_648 c_653)) fun J_657 =>
 (Kind_60 = 10 →
 V_Swap nodes_7 free_12 xby_17 order_22 level_27 memo_32 A_62 fun r_672 c_673 c_677 m_681 c_684 c_688 m_692 =>
 VMeet (σ := Bool) (fun can_707 =>
 VMeet (σ := LI) (fun c_793 =>
 ((!(r_672 == can_707)) = true →
 Q false c_673 c_677 m_681 c_684 c_688 m_692 nodes_39 fs_44 c_793 given_54) ∧
 ((!(r_672 == can_707)) = false →
 J_657 (c_673, c_677, m_681, c_684, c_688, m_692, nodes_39, fs_44, c_793, given_54))) fun J_797 =>
 (can_707 = true →
 In A_62 order_49 ∧
 (I64 (ix order_49 A_62) →
 I64 (A_62 + 1) ∧
 In (A_62 + 1) order_49 ∧
 (I64 (ix order_49 (A_62 + 1)) →
 In A_62 order_49 ∧
 I64 (A_62 + 1) ∧
 In (A_62 + 1) (order_49.set A_62.toNat (ix order_49 (A_62 + 1))) ∧
 J_797 ((order_49.set A_62.toNat (ix order_49 (A_62 + 1))).set (A_62 + 1).toNat (ix order_49 A_62))))) ∧
 (can_707 = false →
 J_797 order_49)) fun J_708 =>
 (0 ≤ A_62 →
 I64 (n_37 - 1) ∧
 J_708 (decide (A_62 < (n_37 - 1)))) ∧
 (¬ (0 ≤ A_62) →
 J_708 false)) ∧
 (¬ (Kind_60 = 10) →
 (Kind_60 = 11 →
 In r_77 nodes_39 ∧
 (I64 (ix nodes_39 r_77) →
 In r_80 nodes_39 ∧
 (I64 (ix nodes_39 r_80) →
 V_Sift nodes_7 free_12 xby_17 order_22 level_27 memo_32 ([(ix nodes_39 r_77), (ix nodes_39 r_80)]) fun c_931 c_935 m_939 c_942 c_946 m_950 =>
 In r_77 fs_44 ∧
 In r_80 fs_44 ∧
 V_rSift ([(ix fs_44 r_77), (ix fs_44 r_80)]) order_49 fun r_1013 =>
 J_657 (c_931, c_935, m_939, c_942, c_946, m_950, nodes_39, fs_44, r_1013, given_54)))) ∧
 (¬ (Kind_60 = 11) →
 (Kind_60 = 12 →
 In r_77 nodes_39 ∧
 (I64 (ix nodes_39 r_77) →
 In r_80 nodes_39 ∧
 (I64 (ix nodes_39 r_80) →
 V_Keep nodes_7 free_12 xby_17 order_22 level_27 memo_32 ([(ix nodes_39 r_77), (ix nodes_39 r_80)]) fun c_1079 m_1083 m_1086 =>
 In r_77 nodes_39 ∧
 (I64 (ix nodes_39 r_77) →
 In r_80 nodes_39 ∧
 (I64 (ix nodes_39 r_80) →
 In r_77 fs_44 ∧
 In r_80 fs_44 ∧
 V_False_ nodes_7 c_1079 m_1083 order_22 level_27 m_1086 fun r_1115 =>
 V_True_ nodes_7 c_1079 m_1083 order_22 level_27 m_1086 fun r_1118 =>
 V_rConst n_37 false fun r_1121 =>
 V_rConst n_37 true fun r_1127 =>
 V_Nodes nodes_7 c_1079 m_1083 order_22 level_27 m_1086 fun r_1151 =>
 V_rSize ([(ix fs_44 r_77), (ix fs_44 r_80)]) order_49 fun r_1172 =>
 (r_1151 ≠ r_1172 →
 Q false nodes_7 c_1079 m_1083 order_22 level_27 m_1086 ([r_1115, r_1118, (ix nodes_39 r_77), (ix nodes_39 r_80)]) ([r_1121, r_1127, (ix fs_44 r_77), (ix fs_44 r_80)]) order_49 ([(ix fs_44 r_77), (ix fs_44 r_80)])) ∧
 (¬ (r_1151 ≠ r_1172) →
 J_657 (nodes_7, c_1079, m_1083, order_22, level_27, m_1086, [r_1115, r_1118, (ix nodes_39 r_77), (ix nodes_39 r_80)], [r_1121, r_1127, (ix fs_44 r_77), (ix fs_44 r_80)], order_49, [(ix fs_44 r_77), (ix fs_44 r_80)]))))))) ∧
 (¬ (Kind_60 = 12) →
 J_657 (nodes_7, free_12, xby_17, order_22, level_27, memo_32, nodes_39, fs_44, order_49, given_54)))))

/-- (*sextantlaw7.World).looks: what is to be shown. -/
def V_looks (nodes_7 : N3) (free_12 : LI) (xby_17 : M3) (order_22 : LI) (level_27 : LI) (memo_32 : M3) (n_37 : Int) (nodes_39 : LI) (fs_44 : B2) (order_49 : LI) (given_54 : B2) (Kind_60 : Int) (A_62 : Int) (B_64 : Int) (C_66 : Int) (Vars_68 : LI) (At_71 : List Bool) (held_74 : Int) (Q : Bool → N3 → LI → M3 → M3 → Prop) : Prop :=
 (Len nodes_39 →
 I64 ((nodes_39.length : Int) - 1) ∧
 In ((nodes_39.length : Int) - 1) nodes_39 ∧
 (I64 (ix nodes_39 ((nodes_39.length : Int) - 1)) →
 In ((nodes_39.length : Int) - 1) fs_44 ∧
 VMeet (σ := Unit) (fun _ =>
 VMeet (σ := N3 × LI × M3 × M3) (fun (c_551, c_556, c_560, c_563) =>
 ((0 : Int) ≤ held_74 ∧ (0 : Int) ≤ 4) ∧
 (0 < (nat2 (· &&& ·) held_74 4) →
 V_pick C_66 ((nodes_39.length : Int) - 1) fun r_626 =>
 In r_626 nodes_39 ∧
 (I64 (ix nodes_39 r_626) →
 V_Size c_551 c_556 c_560 order_22 level_27 c_563 ([(ix nodes_39 ((nodes_39.length : Int) - 1)), (ix nodes_39 r_626)]) fun r_664 =>
 In r_626 fs_44 ∧
 V_rSize ([(ix fs_44 ((nodes_39.length : Int) - 1)), (ix fs_44 r_626)]) order_49 fun r_706 =>
 Q (decide (r_664 = r_706)) c_551 c_556 c_560 c_563)) ∧
 (¬ (0 < (nat2 (· &&& ·) held_74 4)) →
 Q true c_551 c_556 c_560 c_563)) fun J_566 =>
 ((0 : Int) ≤ held_74 ∧ (0 : Int) ≤ 2) ∧
 (0 < (nat2 (· &&& ·) held_74 2) →
 V_Count nodes_7 free_12 xby_17 order_22 level_27 memo_32 (ix nodes_39 ((nodes_39.length : Int) - 1)) fun r_570 =>
 V_rCount (ix fs_44 ((nodes_39.length : Int) - 1)) fun r_573 =>
 V_First nodes_7 free_12 xby_17 order_22 level_27 memo_32 (ix nodes_39 ((nodes_39.length : Int) - 1)) fun r_576 r_581 c_582 c_586 m_590 m_593 =>
 V_rFirst n_37 (ix fs_44 ((nodes_39.length : Int) - 1)) fun r_599 r_604 =>
 V_sameTruths r_576 r_599 fun r_608 =>
 VMeet (σ := Bool) (fun x_616 =>
 (x_616 = true →
 Q false c_582 c_586 m_590 m_593) ∧
 (x_616 = false →
 J_566 (c_582, c_586, m_590, m_593))) fun J_617 =>
 (r_570 ≠ r_573 →
 J_617 true) ∧
 (¬ (r_570 ≠ r_573) →
 ((!(r_581 == r_604)) = true →
 J_617 true) ∧
 ((!(r_581 == r_604)) = false →
 J_617 (!r_608)))) ∧
 (¬ (0 < (nat2 (· &&& ·) held_74 2)) →
 J_566 (nodes_7, free_12, xby_17, memo_32))) fun J_292 =>
 ((0 : Int) ≤ held_74 ∧ (0 : Int) ≤ 1) ∧
 (0 < (nat2 (· &&& ·) held_74 1) →
 VLoop (σ := Int × Int) (0, 0) fun (xat_330, i_332) xnext_370 =>
 VMeet (σ := Bool) (fun x_375 =>
 (x_375 = true →
 VMeet (σ := Int) (fun xat_390 =>
 I64 (i_332 + 1) ∧
 xnext_370 (xat_390, (i_332 + 1))) fun J_392 =>
 In i_332 At_71 ∧
 ((ix At_71 i_332) = true →
 ((0 : Int) ≤ i_332 ∧ (i_332 : Int) < 64 ∧ I64 ((1 : Int) * 2 ^ i_332.toNat)) ∧
 ((0 : Int) ≤ xat_330 ∧ (0 : Int) ≤ ((1 : Int) * 2 ^ i_332.toNat)) ∧
 J_392 (nat2 (· ||| ·) xat_330 ((1 : Int) * 2 ^ i_332.toNat))) ∧
 ((ix At_71 i_332) = false →
 J_392 xat_330)) ∧
 (x_375 = false →
 V_Eval nodes_7 free_12 xby_17 order_22 level_27 memo_32 (ix nodes_39 ((nodes_39.length : Int) - 1)) At_71 fun r_418 =>
 In xat_330 (ix fs_44 ((nodes_39.length : Int) - 1)) ∧
 ((!(r_418 == (ix (ix fs_44 ((nodes_39.length : Int) - 1)) xat_330))) = true →
 Q false nodes_7 free_12 xby_17 memo_32) ∧
 ((!(r_418 == (ix (ix fs_44 ((nodes_39.length : Int) - 1)) xat_330))) = false →
 VLoop (σ := Int) 0 fun i_446 xnext_469 =>
 (i_446 < ((nodes_39.length : Int) - 1) →
 In i_446 fs_44 ∧
 V_rSame (ix fs_44 i_446) (ix fs_44 ((nodes_39.length : Int) - 1)) fun r_476 =>
 In i_446 nodes_39 ∧
 (I64 (ix nodes_39 i_446) →
 ((!(r_476 == (decide ((ix nodes_39 i_446) = (ix nodes_39 ((nodes_39.length : Int) - 1)))))) = true →
 Q false nodes_7 free_12 xby_17 memo_32) ∧
 ((!(r_476 == (decide ((ix nodes_39 i_446) = (ix nodes_39 ((nodes_39.length : Int) - 1)))))) = false →
 I64 (i_446 + 1) ∧
 xnext_469 (i_446 + 1)))) ∧
 (¬ (i_446 < ((nodes_39.length : Int) - 1)) →
 J_292 ())))) fun J_376 =>
 (i_332 < n_37 →
 (Len At_71 →
 J_376 (decide (i_332 < (At_71.length : Int))))) ∧
 (¬ (i_332 < n_37) →
 J_376 false)) ∧
 (¬ (0 < (nat2 (· &&& ·) held_74 1)) →
 J_292 ())))

/-- (*sextantlaw7.World).whole: what is to be shown. -/
def V_whole (nodes_7 : N3) (free_12 : LI) (xby_17 : M3) (order_22 : LI) (level_27 : LI) (memo_32 : M3) (n_37 : Int) (nodes_39 : LI) (fs_44 : B2) (order_49 : LI) (given_54 : B2) (held_59 : Int) (Q : Bool → Prop) : Prop :=
 VMeet (σ := Unit) (fun _ =>
 VLoop (σ := Int) 0 fun i_249 xnext_371 =>
 VMeet (σ := Bool) (fun x_377 =>
 (x_377 = true →
 Made n_37 1 ∧
 VLoop (σ := (List Bool) × Int) ((List.replicate n_37.toNat false), 0) fun (xat_403, k_407) xnext_423 =>
 (k_407 < n_37 →
 ((0 : Int) ≤ k_407 ∧ (k_407 : Int) < 64) ∧
 ((0 : Int) ≤ (i_249.fdiv (2 ^ k_407.toNat)) ∧ (0 : Int) ≤ 1) ∧
 In k_407 xat_403 ∧
 I64 (k_407 + 1) ∧
 xnext_423 ((xat_403.set k_407.toNat (decide ((nat2 (· &&& ·) (i_249.fdiv (2 ^ k_407.toNat)) 1) = 1))), (k_407 + 1))) ∧
 (¬ (k_407 < n_37) →
 In i_249 nodes_39 ∧
 (I64 (ix nodes_39 i_249) →
 V_Eval nodes_7 free_12 xby_17 order_22 level_27 memo_32 (ix nodes_39 i_249) xat_403 fun r_466 =>
 In i_249 fs_44 ∧
 ((0 : Int) ≤ n_37 ∧ (n_37 : Int) < 64 ∧ I64 ((1 : Int) * 2 ^ n_37.toNat)) ∧
 ((((1 : Int) * 2 ^ n_37.toNat) : Int) ≠ 0) ∧
 In (i_249.tmod ((1 : Int) * 2 ^ n_37.toNat)) (ix fs_44 i_249) ∧
 ((!(r_466 == (ix (ix fs_44 i_249) (i_249.tmod ((1 : Int) * 2 ^ n_37.toNat))))) = true →
 Q false) ∧
 ((!(r_466 == (ix (ix fs_44 i_249) (i_249.tmod ((1 : Int) * 2 ^ n_37.toNat))))) = false →
 I64 (i_249 + 1) ∧
 xnext_371 (i_249 + 1))))) ∧
 (x_377 = false →
 Q true)) fun J_378 =>
 ((0 : Int) ≤ held_59 ∧ (0 : Int) ≤ 1) ∧
 (0 < (nat2 (· &&& ·) held_59 1) →
 (Len nodes_39 →
 J_378 (decide (i_249 < (nodes_39.length : Int))))) ∧
 (¬ (0 < (nat2 (· &&& ·) held_59 1)) →
 J_378 false)) fun J_95 =>
 ((0 : Int) ≤ held_59 ∧ (0 : Int) ≤ 4) ∧
 (0 < (nat2 (· &&& ·) held_59 4) →
 V_Nodes nodes_7 free_12 xby_17 order_22 level_27 memo_32 fun r_99 =>
 V_rSize given_54 order_49 fun r_120 =>
 (r_99 < r_120 →
 Q false) ∧
 (¬ (r_99 < r_120) →
 J_95 ())) ∧
 (¬ (0 < (nat2 (· &&& ·) held_59 4)) →
 J_95 ())

/-- sextantlaw7.plays: what is to be shown. -/
def V_plays (n_1 : Int) (script_3 : List (Int × Int × Int × Int × LI × List Bool)) (held_6 : Int) (Q : Bool → Prop) : Prop :=
 ((n_1 < 0) ∨ (9 < n_1) →
 Q true) ∧
 (¬ ((n_1 < 0) ∨ (9 < n_1)) →
 V_world n_1 fun r_13 =>
 (r_13 = none →
 Q false) ∧
 (∀ (y_18_0_0 : N3) (y_18_0_1 : LI) (y_18_0_2 : M3) (y_18_0_3 : LI) (y_18_0_4 : LI) (y_18_0_5 : M3) (y_18_1 : Int) (y_18_2 : LI) (y_18_3 : B2) (y_18_4 : LI) (y_18_5 : B2), r_13 = some (y_18_0_0, y_18_0_1, y_18_0_2, y_18_0_3, y_18_0_4, y_18_0_5, y_18_1, y_18_2, y_18_3, y_18_4, y_18_5) →
 VLoop (σ := N3 × LI × M3 × LI × LI × M3 × LI × B2 × LI × B2 × Int) (y_18_0_0, y_18_0_1, y_18_0_2, y_18_0_3, y_18_0_4, y_18_0_5, y_18_2, y_18_3, y_18_4, y_18_5, 0) fun (c_791, c_796, c_800, c_804, c_809, c_813, c_817, c_822, c_827, c_832, i_836) xnext_1211 =>
 (Len script_3 →
 (i_836 < (script_3.length : Int) →
 VMeet (σ := N3 × LI × M3 × LI × LI × M3 × LI × B2 × LI × B2) (fun (c_1375, c_1380, c_1384, c_1388, c_1393, c_1397, c_1401, c_1406, c_1411, c_1416) =>
 I64 (i_836 + 1) ∧
 xnext_1211 (c_1375, c_1380, c_1384, c_1388, c_1393, c_1397, c_1401, c_1406, c_1411, c_1416, (i_836 + 1))) fun J_1420 =>
 In i_836 script_3 ∧
 (I64 (ix script_3 i_836).1 →
 (I64 (ix script_3 i_836).2.1 →
 (I64 (ix script_3 i_836).2.2.1 →
 (I64 (ix script_3 i_836).2.2.2.1 →
 (10 ≤ (ix script_3 i_836).1 →
 V_turned c_791 c_796 c_800 c_804 c_809 c_813 y_18_1 c_817 c_822 c_827 c_832 ((ix script_3 i_836).1) ((ix script_3 i_836).2.1) ((ix script_3 i_836).2.2.1) ((ix script_3 i_836).2.2.2.1) ((ix script_3 i_836).2.2.2.2.1) ((ix script_3 i_836).2.2.2.2.2) fun r_1449 c_1450 c_1454 m_1458 c_1461 c_1465 m_1469 c_1472 c_1476 c_1480 c_1484 =>
 VMeet (σ := Bool) (fun x_1501 =>
 (x_1501 = true →
 Q false) ∧
 (x_1501 = false →
 J_1420 (c_1450, c_1454, m_1458, c_1461, c_1465, m_1469, c_1472, c_1476, c_1480, c_1484))) fun J_1502 =>
 ((!r_1449) = true →
 ((0 : Int) ≤ held_6 ∧ (0 : Int) ≤ 4) ∧
 J_1502 (decide (0 < (nat2 (· &&& ·) held_6 4)))) ∧
 ((!r_1449) = false →
 J_1502 false)) ∧
 (¬ (10 ≤ (ix script_3 i_836).1) →
 V_wmade c_791 c_796 c_800 c_804 c_809 c_813 y_18_1 c_817 c_822 c_827 c_832 ((ix script_3 i_836).1) ((ix script_3 i_836).2.1) ((ix script_3 i_836).2.2.1) ((ix script_3 i_836).2.2.2.1) ((ix script_3 i_836).2.2.2.2.1) ((ix script_3 i_836).2.2.2.2.2) fun r_1508 r_1510 r_1513 c_1514 c_1518 m_1522 m_1525 =>
 ((!r_1513) = true →
 J_1420 (c_1514, c_1518, m_1522, c_804, c_809, m_1525, c_817, c_822, c_827, c_832)) ∧
 ((!r_1513) = false →
 Room (c_817.length + ([r_1508]).length) 8 ∧
 Room (c_822.length + ([r_1510]).length) 24 ∧
 Room (c_832.length + ([r_1510]).length) 24 ∧
 V_looks c_1514 c_1518 m_1522 c_804 c_809 m_1525 y_18_1 (c_817 ++ ([r_1508])) (c_822 ++ ([r_1510])) c_827 (c_832 ++ ([r_1510])) ((ix script_3 i_836).1) ((ix script_3 i_836).2.1) ((ix script_3 i_836).2.2.1) ((ix script_3 i_836).2.2.2.1) ((ix script_3 i_836).2.2.2.2.1) ((ix script_3 i_836).2.2.2.2.2) held_6 fun r_1559 c_1560 c_1564 m_1568 m_1571 =>
 ((!r_1559) = true →
 Q false) ∧
 ((!r_1559) = false →
 J_1420 (c_1560, c_1564, m_1568, c_804, c_809, m_1571, (c_817 ++ ([r_1508])), (c_822 ++ ([r_1510])), c_827, (c_832 ++ ([r_1510]))))))))))) ∧
 (¬ (i_836 < (script_3.length : Int)) →
 V_whole c_791 c_796 c_800 c_804 c_809 c_813 y_18_1 c_817 c_822 c_827 c_832 held_6 fun r_1582 =>
 Q r_1582))))

/-- sextantlaw7.BddMeans: what is to be shown. -/
def V_BddMeans (n_1 : Int) (script_3 : List (Int × Int × Int × Int × LI × List Bool)) (Q : Bool → Prop) : Prop :=
 V_plays n_1 script_3 1 fun r_6 =>
 Q r_6

/-- sextantlaw7.BddCounts: what is to be shown. -/
def V_BddCounts (n_1 : Int) (script_3 : List (Int × Int × Int × Int × LI × List Bool)) (Q : Bool → Prop) : Prop :=
 V_plays n_1 script_3 2 fun r_6 =>
 Q r_6

/-- sextantlaw7.BddSizes: what is to be shown. -/
def V_BddSizes (n_1 : Int) (script_3 : List (Int × Int × Int × Int × LI × List Bool)) (Q : Bool → Prop) : Prop :=
 V_plays n_1 script_3 4 fun r_6 =>
 Q r_6

/-- sextantlaw7.BddAll: what is to be shown. -/
def V_BddAll (n_1 : Int) (script_3 : List (Int × Int × Int × Int × LI × List Bool)) (Q : Bool → Prop) : Prop :=
 V_plays n_1 script_3 7 fun r_6 =>
 Q r_6

end Go.Vc
