/- For each function: what is to be shown of plain data so that it does its work. Printed by program. -/
import Derived.Test.YtlhkfkecoekoeaaGreatDoorAl
import Derived.Test.YtlhkfkecoekoeaaGreatDoorManV
import Derived.Test.YtlhkfkecoekoeaaGreatDoorTold
set_option linter.unusedVariables false
namespace Go.Vc
def V_rankT (c_1 : Bool) (Q : Int → Prop) : Prop :=
 Q (1 : Int)
def V_rankN (c_1 : Int) (Q : Int → Prop) : Prop :=
 Q (2 : Int)
def V_rankX (c_1 : Str) (Q : Int → Prop) : Prop :=
 Q (3 : Int)
def V_rankA (c_1 : Str) (Q : Int → Prop) : Prop :=
 Q (4 : Int)
def V_rankS (c_1 : Val) (Q : Int → Prop) : Prop :=
 Q (5 : Int)
def V_rankF (c_1 : Val) (Q : Int → Prop) : Prop :=
 Q (6 : Int)
def V_irank (x : Val) (Q : Int → Prop) : Prop :=
 match x with
 | .nil => False
 | .truth t => V_rankT t Q
 | .num n => V_rankN n Q
 | .text s => V_rankX s Q
 | .atom s => V_rankA s Q
 | .set l h => V_rankS (.set l h) Q
 | .fn k v h => V_rankF (.fn k v h) Q
def V_weightT (c_1 : Bool) (Q : Int → Prop) : Prop :=
 Q (1 : Int)
def V_weightN (c_1 : Int) (Q : Int → Prop) : Prop :=
 Q (1 : Int)
def V_weightX (c_1 : Str) (Q : Int → Prop) : Prop :=
 Q (1 : Int)
def V_weightA (c_1 : Str) (Q : Int → Prop) : Prop :=
 Q (1 : Int)
def V_weightS (s_1 : Val) (Q : Int → Prop) : Prop :=
 s_1.isSet = true ∧
 (I64 (s_1.setH) →
 Q (s_1.setH))
def V_weightF (f_1 : Val) (Q : Int → Prop) : Prop :=
 f_1.isFn = true ∧
 (I64 (f_1.fnH) →
 Q (f_1.fnH))
def V_iweight (x : Val) (Q : Int → Prop) : Prop :=
 match x with
 | .nil => False
 | .truth t => V_weightT t Q
 | .num n => V_weightN n Q
 | .text s => V_weightX s Q
 | .atom s => V_weightA s Q
 | .set l h => V_weightS (.set l h) Q
 | .fn k v h => V_weightF (.fn k v h) Q
def V_rank (v_1 : Val) (Q : Int → Prop) : Prop :=
 (v_1.isNil = true →
 Q (0 : Int)) ∧
 (v_1.isNil = false →
 V_irank v_1 fun r_6 =>
 Q r_6)
def V_Weight (v_1 : Val) (Q : Int → Prop) : Prop :=
 (v_1.isNil = true →
 Q (1 : Int)) ∧
 (v_1.isNil = false →
 V_iweight v_1 fun r_6 =>
 Q r_6)
def V_appBool0 (dst_1 : List UInt8) (b_6 : Bool) (Q : (List UInt8) → Prop) : Prop :=
 (b_6 = true →
 Room (dst_1.length + ([116, 114, 117, 101] : Str).length) 1 ∧
 Q (dst_1 ++ ([116, 114, 117, 101] : Str))) ∧
 (b_6 = false →
 Room (dst_1.length + ([102, 97, 108, 115, 101] : Str).length) 1 ∧
 Q (dst_1 ++ ([102, 97, 108, 115, 101] : Str)))
def V_appBool (dst_1 : List UInt8) (b_6 : Bool) (Q : (List UInt8) → Prop) : Prop :=
 V_appBool0 dst_1 b_6 fun r_8 =>
 Q r_8
def V_appInt0 (dst_1 : List UInt8) (i_6 : Int) (base_8 : Int) (Q : (List UInt8) → Prop) : Prop :=
 VMeet (σ := (List UInt8) × Int) (fun (dst_23, u_27) =>
 V_appUint dst_23 u_27 base_8 fun r_42 =>
 Q r_42) fun J_29 =>
 (i_6 < (0 : Int) →
 Room (dst_1.length + ([u8 (45 : Int)]).length) 1 ∧
 J_29 ((dst_1 ++ ([u8 (45 : Int)])), (IntKind.u64.wrap (-(IntKind.u64.wrap i_6))))) ∧
 (¬ (i_6 < (0 : Int)) →
 J_29 (dst_1, (IntKind.u64.wrap i_6)))
def V_appInt (dst_1 : List UInt8) (i_6 : Int) (base_8 : Int) (Q : (List UInt8) → Prop) : Prop :=
 V_appInt0 dst_1 i_6 base_8 fun r_11 =>
 Q r_11
def V_showT (t_1 : Bool) (b_2 : List UInt8) (Q : (List UInt8) → Prop) : Prop :=
 V_appBool b_2 t_1 fun r_8 =>
 Q r_8
def V_showN (n_1 : Int) (b_3 : List UInt8) (Q : (List UInt8) → Prop) : Prop :=
 V_appInt b_3 n_1 (10 : Int) fun r_9 =>
 Q r_9
def V_showX (t_1 : Str) (b_2 : List UInt8) (Q : (List UInt8) → Prop) : Prop :=
 Room (b_2.length + ([u8 (34 : Int)]).length) 1 ∧
 Room ((b_2 ++ ([u8 (34 : Int)])).length + t_1.length) 1 ∧
 Room (((b_2 ++ ([u8 (34 : Int)])) ++ t_1).length + ([u8 (34 : Int)]).length) 1 ∧
 Q (((b_2 ++ ([u8 (34 : Int)])) ++ t_1) ++ ([u8 (34 : Int)]))
def V_showA (a_1 : Str) (b_2 : List UInt8) (Q : (List UInt8) → Prop) : Prop :=
 Room (b_2.length + a_1.length) 1 ∧
 Q (b_2 ++ a_1)
def V_showS1 (G : Val → (List UInt8) → ((List UInt8) → Prop) → Prop) (b_1 : List UInt8) (i_6 : Int) (c_8_11 : Val) (Q : (List UInt8) → Prop) : Prop :=
 c_8_11.isSet = true ∧
 In i_6 (c_8_11.setL) ∧
 G (ix (c_8_11.setL) i_6) b_1 fun r_28 =>
 Q r_28
def V_showF1 (G : Val → (List UInt8) → ((List UInt8) → Prop) → Prop) (b_1 : List UInt8) (i_6 : Int) (c_8_11 : Val) (Q : (List UInt8) → Prop) : Prop :=
 c_8_11.isFn = true ∧
 In i_6 (c_8_11.fnV) ∧
 G (ix (c_8_11.fnV) i_6) b_1 fun r_28 =>
 Q r_28
def V_showF2 (G : Val → (List UInt8) → ((List UInt8) → Prop) → Prop) (b_1 : List UInt8) (i_6 : Int) (c_8_11 : Val) (Q : (List UInt8) → Prop) : Prop :=
 c_8_11.isFn = true ∧
 In i_6 (c_8_11.fnV) ∧
 c_8_11.isFn = true ∧
 In i_6 (c_8_11.fnK) ∧
 G (ix (c_8_11.fnK) i_6) b_1 fun r_71 =>
 Room (r_71.length + ([58, 32] : Str).length) 1 ∧
 G (ix (c_8_11.fnV) i_6) (r_71 ++ ([58, 32] : Str)) fun r_82 =>
 Q r_82
def V_listedS (G : Val → (List UInt8) → ((List UInt8) → Prop) → Prop) (b_1 : List UInt8) (n_6 : Int) (c_9_12 : Val) (Q : (List UInt8) → Prop) : Prop :=
 VLoop (σ := (List UInt8) × Int) (b_1, (0 : Int)) fun (b_48, x_52) xnext_87 =>
 (x_52 < n_6 →
 VMeet (σ := (List UInt8)) (fun b_97 =>
 V_showS1 G b_97 x_52 c_9_12 fun r_110 =>
 I64 (x_52 + (1 : Int)) ∧
 xnext_87 (r_110, (x_52 + (1 : Int)))) fun J_101 =>
 ((0 : Int) < x_52 →
 Room (b_48.length + ([44, 32] : Str).length) 1 ∧
 J_101 (b_48 ++ ([44, 32] : Str))) ∧
 (¬ ((0 : Int) < x_52) →
 J_101 b_48)) ∧
 (¬ (x_52 < n_6) →
 Q b_48)
def V_listedF1 (G : Val → (List UInt8) → ((List UInt8) → Prop) → Prop) (b_1 : List UInt8) (n_6 : Int) (c_9_12 : Val) (Q : (List UInt8) → Prop) : Prop :=
 VLoop (σ := (List UInt8) × Int) (b_1, (0 : Int)) fun (b_48, x_52) xnext_87 =>
 (x_52 < n_6 →
 VMeet (σ := (List UInt8)) (fun b_97 =>
 V_showF1 G b_97 x_52 c_9_12 fun r_110 =>
 I64 (x_52 + (1 : Int)) ∧
 xnext_87 (r_110, (x_52 + (1 : Int)))) fun J_101 =>
 ((0 : Int) < x_52 →
 Room (b_48.length + ([44, 32] : Str).length) 1 ∧
 J_101 (b_48 ++ ([44, 32] : Str))) ∧
 (¬ ((0 : Int) < x_52) →
 J_101 b_48)) ∧
 (¬ (x_52 < n_6) →
 Q b_48)
def V_listedF2 (G : Val → (List UInt8) → ((List UInt8) → Prop) → Prop) (b_1 : List UInt8) (n_6 : Int) (c_9_12 : Val) (Q : (List UInt8) → Prop) : Prop :=
 VLoop (σ := (List UInt8) × Int) (b_1, (0 : Int)) fun (b_48, x_52) xnext_87 =>
 (x_52 < n_6 →
 VMeet (σ := (List UInt8)) (fun b_97 =>
 V_showF2 G b_97 x_52 c_9_12 fun r_110 =>
 I64 (x_52 + (1 : Int)) ∧
 xnext_87 (r_110, (x_52 + (1 : Int)))) fun J_101 =>
 ((0 : Int) < x_52 →
 Room (b_48.length + ([44, 32] : Str).length) 1 ∧
 J_101 (b_48 ++ ([44, 32] : Str))) ∧
 (¬ ((0 : Int) < x_52) →
 J_101 b_48)) ∧
 (¬ (x_52 < n_6) →
 Q b_48)
def V_sequential (keys_1 : List (Val)) (Q : Bool → Prop) : Prop :=
 (Len keys_1 →
 VLoop (σ := Int) (0 : Int) fun x_29 xnext_57 =>
 (x_29 < (keys_1.length : Int) →
 In x_29 keys_1 ∧
 VMeet (σ := Bool) (fun x_71 =>
 (x_71 = true →
 Q false) ∧
 (x_71 = false →
 I64 (x_29 + (1 : Int)) ∧
 xnext_57 (x_29 + (1 : Int)))) fun J_72 =>
 ((!((ix keys_1 x_29).isNum)) = true →
 J_72 true) ∧
 ((!((ix keys_1 x_29).isNum)) = false →
 I64 (x_29 + (1 : Int)) ∧
 J_72 (decide ((ix keys_1 x_29).numD ≠ (x_29 + (1 : Int)))))) ∧
 (¬ (x_29 < (keys_1.length : Int)) →
 Q true))
def V_showS (G : Val → (List UInt8) → ((List UInt8) → Prop) → Prop) (s_1 : Val) (b_4 : List UInt8) (Q : (List UInt8) → Prop) : Prop :=
 Room (b_4.length + ([u8 (123 : Int)]).length) 1 ∧
 s_1.isSet = true ∧
 (Len (s_1.setL) →
 V_listedS G (b_4 ++ ([u8 (123 : Int)])) ((s_1.setL).length : Int) s_1 fun r_29 =>
 Room (r_29.length + ([u8 (125 : Int)]).length) 1 ∧
 Q (r_29 ++ ([u8 (125 : Int)])))
def V_showF (G : Val → (List UInt8) → ((List UInt8) → Prop) → Prop) (f_1 : Val) (b_4 : List UInt8) (Q : (List UInt8) → Prop) : Prop :=
 f_1.isFn = true ∧
 V_sequential (f_1.fnK) fun r_19 =>
 (r_19 = true →
 Room (b_4.length + ([60, 60] : Str).length) 1 ∧
 f_1.isFn = true ∧
 (Len (f_1.fnV) →
 V_listedF1 G (b_4 ++ ([60, 60] : Str)) ((f_1.fnV).length : Int) f_1 fun r_34 =>
 Room (r_34.length + ([62, 62] : Str).length) 1 ∧
 Q (r_34 ++ ([62, 62] : Str)))) ∧
 (r_19 = false →
 Room (b_4.length + ([u8 (91 : Int)]).length) 1 ∧
 f_1.isFn = true ∧
 (Len (f_1.fnK) →
 V_listedF2 G (b_4 ++ ([u8 (91 : Int)])) ((f_1.fnK).length : Int) f_1 fun r_62 =>
 Room (r_62.length + ([u8 (93 : Int)]).length) 1 ∧
 Q (r_62 ++ ([u8 (93 : Int)]))))
def V_ishow (G : Val → Str → (Str → Prop) → Prop) (x : Val) (b : Str) (Q : Str → Prop) : Prop :=
 match x with
 | .nil => False
 | .truth t => V_showT t b Q
 | .num n => V_showN n b Q
 | .text s => V_showX s b Q
 | .atom s => V_showA s b Q
 | .set l h => V_showS G (.set l h) b Q
 | .fn k v h => V_showF G (.fn k v h) b Q
def V_put : Nat → Val → (List UInt8) → ((List UInt8) → Prop) → Prop
 | 0, _, _, _ => False
 | m0 + 1, v_1, b_4, Q =>
 (v_1.isNil = true →
 Room (b_4.length + ([110, 105, 108] : Str).length) 1 ∧
 Q (b_4 ++ ([110, 105, 108] : Str))) ∧
 (v_1.isNil = false →
 V_ishow (V_put m0) v_1 b_4 fun r_17 =>
 Q r_17)
def V_Show (v_1 : Val) (Q : Str → Prop) : Prop :=
 ∃ mf, V_put mf v_1 ([] : List UInt8) fun r_7 =>
 Q r_7
def V_isNaN (x_1 : Int) (Q : Bool → Prop) : Prop :=
 Q (decide (x_1 ≠ x_1))
def V_isNaNN (x_1 : Int) (Q : Bool → Prop) : Prop :=
 Q (decide (x_1 ≠ x_1))
def V_isNaNX (x_1 : Str) (Q : Bool → Prop) : Prop :=
 Q (decide (x_1 ≠ x_1))
def V_isNaNA (x_1 : Str) (Q : Bool → Prop) : Prop :=
 Q (decide (x_1 ≠ x_1))
def V_cmpI (x_1 : Int) (y_3 : Int) (Q : Int → Prop) : Prop :=
 V_isNaN x_1 fun r_5 =>
 V_isNaN y_3 fun r_7 =>
 (r_5 = true →
 (r_7 = true →
 Q (0 : Int)) ∧
 (r_7 = false →
 Q (-1))) ∧
 (r_5 = false →
 (r_7 = true →
 Q (1 : Int)) ∧
 (r_7 = false →
 (x_1 < y_3 →
 Q (-1)) ∧
 (¬ (x_1 < y_3) →
 (y_3 < x_1 →
 Q (1 : Int)) ∧
 (¬ (y_3 < x_1) →
 Q (0 : Int)))))
def V_cmpN (x_1 : Int) (y_3 : Int) (Q : Int → Prop) : Prop :=
 V_isNaNN x_1 fun r_5 =>
 V_isNaNN y_3 fun r_7 =>
 (r_5 = true →
 (r_7 = true →
 Q (0 : Int)) ∧
 (r_7 = false →
 Q (-1))) ∧
 (r_5 = false →
 (r_7 = true →
 Q (1 : Int)) ∧
 (r_7 = false →
 (x_1 < y_3 →
 Q (-1)) ∧
 (¬ (x_1 < y_3) →
 (y_3 < x_1 →
 Q (1 : Int)) ∧
 (¬ (y_3 < x_1) →
 Q (0 : Int)))))
def V_cmpX (x_1 : Str) (y_2 : Str) (Q : Int → Prop) : Prop :=
 V_isNaNX x_1 fun r_3 =>
 V_isNaNX y_2 fun r_5 =>
 (r_3 = true →
 (r_5 = true →
 Q (0 : Int)) ∧
 (r_5 = false →
 Q (-1))) ∧
 (r_3 = false →
 (r_5 = true →
 Q (1 : Int)) ∧
 (r_5 = false →
 ((sLt x_1 y_2) = true →
 Q (-1)) ∧
 ((sLt x_1 y_2) = false →
 ((!(sLt x_1 y_2 || decide (x_1 = y_2))) = true →
 Q (1 : Int)) ∧
 ((!(sLt x_1 y_2 || decide (x_1 = y_2))) = false →
 Q (0 : Int)))))
def V_cmpA (x_1 : Str) (y_2 : Str) (Q : Int → Prop) : Prop :=
 V_isNaNA x_1 fun r_3 =>
 V_isNaNA y_2 fun r_5 =>
 (r_3 = true →
 (r_5 = true →
 Q (0 : Int)) ∧
 (r_5 = false →
 Q (-1))) ∧
 (r_3 = false →
 (r_5 = true →
 Q (1 : Int)) ∧
 (r_5 = false →
 ((sLt x_1 y_2) = true →
 Q (-1)) ∧
 ((sLt x_1 y_2) = false →
 ((!(sLt x_1 y_2 || decide (x_1 = y_2))) = true →
 Q (1 : Int)) ∧
 ((!(sLt x_1 y_2 || decide (x_1 = y_2))) = false →
 Q (0 : Int)))))
def V_cmpOr (vals_1 : LI) (Q : Int → Prop) : Prop :=
 (Len vals_1 →
 VLoop (σ := Int) (0 : Int) fun x_19 xnext_37 =>
 (x_19 < (vals_1.length : Int) →
 In x_19 vals_1 ∧
 (I64 (ix vals_1 x_19) →
 ((ix vals_1 x_19) ≠ (0 : Int) →
 Q (ix vals_1 x_19)) ∧
 (¬ ((ix vals_1 x_19) ≠ (0 : Int)) →
 I64 (x_19 + (1 : Int)) ∧
 xnext_37 (x_19 + (1 : Int))))) ∧
 (¬ (x_19 < (vals_1.length : Int)) →
 Q (0 : Int)))
def V_CompareFunc (G : Val → Val → (Int → Prop) → Prop) (s1_1 : List (Val)) (s2_4 : List (Val)) (Q : Int → Prop) : Prop :=
 (Len s1_1 →
 VLoop (σ := Int) (0 : Int) fun x_37 xnext_69 =>
 (x_37 < (s1_1.length : Int) →
 In x_37 s1_1 ∧
 (Len s2_4 →
 ((s2_4.length : Int) ≤ x_37 →
 Q (1 : Int)) ∧
 (¬ ((s2_4.length : Int) ≤ x_37) →
 In x_37 s2_4 ∧
 G (ix s1_1 x_37) (ix s2_4 x_37) fun r_89 =>
 (r_89 ≠ (0 : Int) →
 Q r_89) ∧
 (¬ (r_89 ≠ (0 : Int)) →
 I64 (x_37 + (1 : Int)) ∧
 xnext_69 (x_37 + (1 : Int)))))) ∧
 (¬ (x_37 < (s1_1.length : Int)) →
 (Len s1_1 →
 (Len s2_4 →
 ((s1_1.length : Int) < (s2_4.length : Int) →
 Q (-1)) ∧
 (¬ ((s1_1.length : Int) < (s2_4.length : Int)) →
 Q (0 : Int))))))
def V_cmpLists (G : Val → Val → (Int → Prop) → Prop) (a_1 : List (Val)) (b_4 : List (Val)) (Q : Int → Prop) : Prop :=
 (Len a_1 →
 (Len b_4 →
 V_cmpI (a_1.length : Int) (b_4.length : Int) fun r_9 =>
 (r_9 ≠ (0 : Int) →
 Q r_9) ∧
 (¬ (r_9 ≠ (0 : Int)) →
 V_CompareFunc G a_1 b_4 fun r_13 =>
 Q r_13)))
def V_Compare : Nat → Val → Val → (Int → Prop) → Prop
 | 0, _, _, _ => False
 | m0 + 1, a_1, b_4, Q =>
 V_rank a_1 fun r_15 =>
 V_rank b_4 fun r_18 =>
 V_cmpI r_15 r_18 fun r_21 =>
 VMeet (σ := Bool) (fun x_28 =>
 (x_28 = true →
 Q r_21) ∧
 (x_28 = false →
 (a_1.isTruth = true →
 b_4.isTruth = true ∧
 ((a_1.truthD == b_4.truthD) = true →
 Q (0 : Int)) ∧
 ((a_1.truthD == b_4.truthD) = false →
 (b_4.truthD = true →
 Q (-1)) ∧
 (b_4.truthD = false →
 Q (1 : Int)))) ∧
 (a_1.isTruth = false →
 (a_1.isNum = true →
 b_4.isNum = true ∧
 V_cmpN a_1.numD b_4.numD fun r_37 =>
 Q r_37) ∧
 (a_1.isNum = false →
 (a_1.isText = true →
 b_4.isText = true ∧
 V_cmpX a_1.textD b_4.textD fun r_41 =>
 Q r_41) ∧
 (a_1.isText = false →
 (a_1.isAtom = true →
 b_4.isAtom = true ∧
 V_cmpA a_1.atomD b_4.atomD fun r_45 =>
 Q r_45) ∧
 (a_1.isAtom = false →
 (a_1.isSet = true →
 a_1.isSet = true ∧
 b_4.isSet = true ∧
 b_4.isSet = true ∧
 V_cmpLists (V_Compare m0) (a_1.setL) (b_4.setL) fun r_87 =>
 Q r_87) ∧
 (a_1.isSet = false →
 (a_1.isFn = true →
 b_4.isFn = true ∧
 a_1.isFn = true ∧
 b_4.isFn = true ∧
 a_1.isFn = true ∧
 b_4.isFn = true ∧
 V_cmpLists (V_Compare m0) (a_1.fnK) (b_4.fnK) fun r_157 =>
 V_cmpLists (V_Compare m0) (a_1.fnV) (b_4.fnV) fun r_160 =>
 V_cmpOr ([r_157, r_160]) fun r_168 =>
 Q r_168) ∧
 (a_1.isFn = false →
 Q (0 : Int))))))))) fun J_29 =>
 (r_21 ≠ (0 : Int) →
 J_29 true) ∧
 (¬ (r_21 ≠ (0 : Int)) →
 J_29 a_1.isNil)
def V_Truth (b_1 : Bool) (Q : Val → Prop) : Prop :=
 Q (Val.truth b_1)
def V_Number (n_1 : Int) (Q : Val → Prop) : Prop :=
 Q (Val.num n_1)
def V_Text (s_1 : Str) (Q : Val → Prop) : Prop :=
 Q (Val.text s_1)
def V_Atom (s_1 : Str) (Q : Val → Prop) : Prop :=
 Q (Val.atom s_1)
def V_ascSet (l_1 : List (Val)) (Q : Val → Prop) : Prop :=
 (Len l_1 →
 VLoop (σ := Int × Int) ((1 : Int), (0 : Int)) fun (heavy_26, x_28) xnext_51 =>
 (x_28 < (l_1.length : Int) →
 In x_28 l_1 ∧
 V_Weight (ix l_1 x_28) fun r_61 =>
 I64 (heavy_26 + r_61) ∧
 ((1024 : Int) < (heavy_26 + r_61) →
 Q Val.nil) ∧
 (¬ ((1024 : Int) < (heavy_26 + r_61)) →
 I64 (x_28 + (1 : Int)) ∧
 xnext_51 ((heavy_26 + r_61), (x_28 + (1 : Int))))) ∧
 (¬ (x_28 < (l_1.length : Int)) →
 Q (Val.set l_1 heavy_26)))
def V_SetOf1 (a_1 : Val) (b_4 : Val) (Q : Bool → Prop) : Prop :=
 ∃ mf, V_Compare mf a_1 b_4 fun r_11 =>
 Q (decide (r_11 = (0 : Int)))
def V_SortV (x : List Val) (Q : List Val → Prop) : Prop := x.length < 4611686018427387904 ∧ ∃ c : Val → Val → Int,
 (∀ a ∈ x, ∀ b ∈ x, ∃ m, V_Compare m a b fun r => r = c a b) ∧ (∀ a ∈ x, ¬ c a a < 0) ∧ (∀ a ∈ x, ∀ b ∈ x, ∀ d ∈ x, c a b < 0 → c b d < 0 → c a d < 0) ∧ (∀ a ∈ x, ∀ b ∈ x, ∀ d ∈ x, ¬ c a b < 0 → ¬ c b d < 0 → ¬ c a d < 0) ∧
 ∀ y, y.Perm x → y.Pairwise (fun a b => ¬ c b a < 0) → Q y
def V_CompactV (s_1 : List (Val)) (Q : (List (Val)) → Prop) : Prop :=
 (Len s_1 →
 ((s_1.length : Int) < (2 : Int) →
 Q s_1) ∧
 (¬ ((s_1.length : Int) < (2 : Int)) →
 VLoop (σ := Int) (1 : Int) fun k_423 xnext_840 =>
 (Len s_1 →
 (k_423 < (s_1.length : Int) →
 In k_423 s_1 ∧
 I64 (k_423 - (1 : Int)) ∧
 In (k_423 - (1 : Int)) s_1 ∧
 V_SetOf1 (ix s_1 k_423) (ix s_1 (k_423 - (1 : Int))) fun r_877 =>
 (r_877 = true →
 In k_423 s_1 ∧
 VLoop (σ := (List (Val)) × Int × Int) (s_1, k_423, (1 : Int)) fun (s_998, k_1001, k2_1003) xnext_1123 =>
 I64 ((s_998.length : Int) - k_423) ∧
 (k2_1003 < ((s_998.length : Int) - k_423) →
 VMeet (σ := (List (Val)) × Int) (fun (s_1178, k_1181) =>
 I64 (k2_1003 + (1 : Int)) ∧
 xnext_1123 (s_1178, k_1181, (k2_1003 + (1 : Int)))) fun J_1183 =>
 ((0 : Int) ≤ k2_1003 ∧ (0 : Int) ≤ (k_423 + k2_1003) ∧ (k_423 + k2_1003) < (s_998.length : Int)) ∧
 I64 (k2_1003 - (1 : Int)) ∧
 ((0 : Int) ≤ (k2_1003 - (1 : Int)) ∧ (0 : Int) ≤ (k_423 + (k2_1003 - (1 : Int))) ∧ (k_423 + (k2_1003 - (1 : Int))) < (s_998.length : Int)) ∧
 V_SetOf1 (ix s_998 (k_423 + k2_1003)) (ix s_998 (k_423 + (k2_1003 - (1 : Int)))) fun r_1219 =>
 ((!r_1219) = true →
 ((0 : Int) ≤ k2_1003 ∧ (0 : Int) ≤ (k_423 + k2_1003) ∧ (k_423 + k2_1003) < (s_998.length : Int)) ∧
 In k_1001 s_998 ∧
 I64 (k_1001 + (1 : Int)) ∧
 J_1183 ((s_998.set k_1001.toNat (ix s_998 (k_423 + k2_1003))), (k_1001 + (1 : Int)))) ∧
 ((!r_1219) = false →
 J_1183 (s_998, k_1001))) ∧
 (¬ (k2_1003 < ((s_998.length : Int) - k_423)) →
 In k_1001 s_998 ∧
 ((0 : Int) ≤ k_1001 ∧ k_1001 ≤ ((s_998.take k_1001.toNat ++ List.replicate (s_998.length - k_1001.toNat) Val.nil).length : Int)) ∧
 Q ((s_998.take k_1001.toNat ++ List.replicate (s_998.length - k_1001.toNat) Val.nil).take k_1001.toNat))) ∧
 (r_877 = false →
 I64 (k_423 + (1 : Int)) ∧
 xnext_840 (k_423 + (1 : Int)))) ∧
 (¬ (k_423 < (s_1.length : Int)) →
 Q s_1))))
def V_SetOf (l_1 : List (Val)) (Q : Val → Prop) : Prop :=
 V_SortV l_1 fun c_8 =>
 V_CompactV c_8 fun r_12 =>
 V_ascSet r_12 fun r_21 =>
 Q r_21
def V_FunOf1 (i_1 : Int) (k_3 : Int) (c_5_8 : List (Val)) (Q : Int → Prop) : Prop :=
 In i_1 c_5_8 ∧
 In k_3 c_5_8 ∧
 ∃ mf, V_Compare mf (ix c_5_8 i_1) (ix c_5_8 k_3) fun r_39 =>
 Q r_39
def V_insSF (data_1 : LI) (a_6 : Int) (b_8 : Int) (c_11_14 : List (Val)) (Q : LI → Prop) : Prop :=
 I64 (a_6 + (1 : Int)) ∧
 VLoop (σ := LI × Int) (data_1, (a_6 + (1 : Int))) fun (data_404, i_407) xnext_796 =>
 (i_407 < b_8 →
 VLoop (σ := LI × Int) (data_404, i_407) fun (data_922, j_925) xnext_1053 =>
 VMeet (σ := Bool) (fun x_1082 =>
 (x_1082 = true →
 I64 (j_925 - (1 : Int)) ∧
 I64 (j_925 - (1 : Int)) ∧
 In (j_925 - (1 : Int)) data_922 ∧
 (I64 (ix data_922 (j_925 - (1 : Int))) →
 In j_925 data_922 ∧
 (I64 (ix data_922 j_925) →
 In j_925 data_922 ∧
 In (j_925 - (1 : Int)) (data_922.set j_925.toNat (ix data_922 (j_925 - (1 : Int)))) ∧
 I64 (j_925 - (1 : Int)) ∧
 xnext_1053 (((data_922.set j_925.toNat (ix data_922 (j_925 - (1 : Int)))).set (j_925 - (1 : Int)).toNat (ix data_922 j_925)), (j_925 - (1 : Int)))))) ∧
 (x_1082 = false →
 I64 (i_407 + (1 : Int)) ∧
 xnext_796 (data_922, (i_407 + (1 : Int))))) fun J_1083 =>
 (a_6 < j_925 →
 In j_925 data_922 ∧
 (I64 (ix data_922 j_925) →
 I64 (j_925 - (1 : Int)) ∧
 In (j_925 - (1 : Int)) data_922 ∧
 (I64 (ix data_922 (j_925 - (1 : Int))) →
 ∃ (r_1107 : Int), V_FunOf1 (ix data_922 j_925) (ix data_922 (j_925 - (1 : Int))) c_11_14 (fun y0 => y0 = r_1107) ∧ I64 r_1107 ∧
 J_1083 (decide (r_1107 < (0 : Int)))))) ∧
 (¬ (a_6 < j_925) →
 J_1083 false)) ∧
 (¬ (i_407 < b_8) →
 Q data_404)
def V_swapSF (data_1 : LI) (a_6 : Int) (b_8 : Int) (n_10 : Int) (c_13_16 : List (Val)) (Q : LI → Prop) : Prop :=
 VLoop (σ := LI × Int) (data_1, (0 : Int)) fun (data_101, i_104) xnext_190 =>
 (i_104 < n_10 →
 I64 (a_6 + i_104) ∧
 I64 (b_8 + i_104) ∧
 I64 (b_8 + i_104) ∧
 In (b_8 + i_104) data_101 ∧
 (I64 (ix data_101 (b_8 + i_104)) →
 I64 (a_6 + i_104) ∧
 In (a_6 + i_104) data_101 ∧
 (I64 (ix data_101 (a_6 + i_104)) →
 In (a_6 + i_104) data_101 ∧
 In (b_8 + i_104) (data_101.set (a_6 + i_104).toNat (ix data_101 (b_8 + i_104))) ∧
 I64 (i_104 + (1 : Int)) ∧
 xnext_190 (((data_101.set (a_6 + i_104).toNat (ix data_101 (b_8 + i_104))).set (b_8 + i_104).toNat (ix data_101 (a_6 + i_104))), (i_104 + (1 : Int)))))) ∧
 (¬ (i_104 < n_10) →
 Q data_101)
def V_rotSF (data_1 : LI) (a_6 : Int) (m_8 : Int) (b_10 : Int) (c_13_16 : List (Val)) (Q : LI → Prop) : Prop :=
 I64 (m_8 - a_6) ∧
 I64 (b_10 - m_8) ∧
 VLoop (σ := LI × Int × Int) (data_1, (m_8 - a_6), (b_10 - m_8)) fun (data_47, i_50, j_52) xnext_80 =>
 (i_50 ≠ j_52 →
 (j_52 < i_50 →
 I64 (m_8 - i_50) ∧
 V_swapSF data_47 (m_8 - i_50) m_8 j_52 c_13_16 fun c_85 =>
 I64 (i_50 - j_52) ∧
 xnext_80 (c_85, (i_50 - j_52), j_52)) ∧
 (¬ (j_52 < i_50) →
 I64 (m_8 - i_50) ∧
 I64 (m_8 + j_52) ∧
 I64 ((m_8 + j_52) - i_50) ∧
 V_swapSF data_47 (m_8 - i_50) ((m_8 + j_52) - i_50) i_50 c_13_16 fun c_97 =>
 I64 (j_52 - i_50) ∧
 xnext_80 (c_97, i_50, (j_52 - i_50)))) ∧
 (¬ (i_50 ≠ j_52) →
 I64 (m_8 - i_50) ∧
 V_swapSF data_47 (m_8 - i_50) m_8 i_50 c_13_16 fun c_106 =>
 Q c_106)
def V_symSF : Nat → LI → Int → Int → Int → (List (Val)) → (LI → Prop) → Prop
 | 0, _, _, _, _, _, _ => False
 | m0 + 1, data_1, a_6, m_8, b_10, c_13_16, Q =>
 I64 (m_8 - a_6) ∧
 ((m_8 - a_6) = (1 : Int) →
 VLoop (σ := Int × Int) (m_8, b_10) fun (i_69, j_71) xnext_122 =>
 (i_69 < j_71 →
 I64 (i_69 + j_71) ∧
 In (IntKind.i64.wrap ((IntKind.u64.wrap (i_69 + j_71)) / 2)) data_1 ∧
 (I64 (ix data_1 (IntKind.i64.wrap ((IntKind.u64.wrap (i_69 + j_71)) / 2))) →
 In a_6 data_1 ∧
 (I64 (ix data_1 a_6) →
 V_FunOf1 (ix data_1 (IntKind.i64.wrap ((IntKind.u64.wrap (i_69 + j_71)) / 2))) (ix data_1 a_6) c_13_16 fun r_160 =>
 (r_160 < (0 : Int) →
 I64 ((IntKind.i64.wrap ((IntKind.u64.wrap (i_69 + j_71)) / 2)) + (1 : Int)) ∧
 xnext_122 (((IntKind.i64.wrap ((IntKind.u64.wrap (i_69 + j_71)) / 2)) + (1 : Int)), j_71)) ∧
 (¬ (r_160 < (0 : Int)) →
 xnext_122 (i_69, (IntKind.i64.wrap ((IntKind.u64.wrap (i_69 + j_71)) / 2))))))) ∧
 (¬ (i_69 < j_71) →
 VLoop (σ := LI × Int) (data_1, a_6) fun (data_237, k_240) xnext_312 =>
 I64 (i_69 - (1 : Int)) ∧
 (k_240 < (i_69 - (1 : Int)) →
 I64 (k_240 + (1 : Int)) ∧
 I64 (k_240 + (1 : Int)) ∧
 In (k_240 + (1 : Int)) data_237 ∧
 (I64 (ix data_237 (k_240 + (1 : Int))) →
 In k_240 data_237 ∧
 (I64 (ix data_237 k_240) →
 In k_240 data_237 ∧
 In (k_240 + (1 : Int)) (data_237.set k_240.toNat (ix data_237 (k_240 + (1 : Int)))) ∧
 I64 (k_240 + (1 : Int)) ∧
 xnext_312 (((data_237.set k_240.toNat (ix data_237 (k_240 + (1 : Int)))).set (k_240 + (1 : Int)).toNat (ix data_237 k_240)), (k_240 + (1 : Int)))))) ∧
 (¬ (k_240 < (i_69 - (1 : Int))) →
 Q data_237))) ∧
 (¬ ((m_8 - a_6) = (1 : Int)) →
 I64 (b_10 - m_8) ∧
 ((b_10 - m_8) = (1 : Int) →
 VLoop (σ := Int × Int) (a_6, m_8) fun (i_436, j_438) xnext_491 =>
 (i_436 < j_438 →
 I64 (i_436 + j_438) ∧
 In m_8 data_1 ∧
 (I64 (ix data_1 m_8) →
 In (IntKind.i64.wrap ((IntKind.u64.wrap (i_436 + j_438)) / 2)) data_1 ∧
 (I64 (ix data_1 (IntKind.i64.wrap ((IntKind.u64.wrap (i_436 + j_438)) / 2))) →
 V_FunOf1 (ix data_1 m_8) (ix data_1 (IntKind.i64.wrap ((IntKind.u64.wrap (i_436 + j_438)) / 2))) c_13_16 fun r_529 =>
 (¬ (r_529 < (0 : Int)) →
 I64 ((IntKind.i64.wrap ((IntKind.u64.wrap (i_436 + j_438)) / 2)) + (1 : Int)) ∧
 xnext_491 (((IntKind.i64.wrap ((IntKind.u64.wrap (i_436 + j_438)) / 2)) + (1 : Int)), j_438)) ∧
 (r_529 < (0 : Int) →
 xnext_491 (i_436, (IntKind.i64.wrap ((IntKind.u64.wrap (i_436 + j_438)) / 2))))))) ∧
 (¬ (i_436 < j_438) →
 VLoop (σ := LI × Int) (data_1, m_8) fun (data_606, k_609) xnext_679 =>
 (i_436 < k_609 →
 I64 (k_609 - (1 : Int)) ∧
 I64 (k_609 - (1 : Int)) ∧
 In (k_609 - (1 : Int)) data_606 ∧
 (I64 (ix data_606 (k_609 - (1 : Int))) →
 In k_609 data_606 ∧
 (I64 (ix data_606 k_609) →
 In k_609 data_606 ∧
 In (k_609 - (1 : Int)) (data_606.set k_609.toNat (ix data_606 (k_609 - (1 : Int)))) ∧
 I64 (k_609 - (1 : Int)) ∧
 xnext_679 (((data_606.set k_609.toNat (ix data_606 (k_609 - (1 : Int)))).set (k_609 - (1 : Int)).toNat (ix data_606 k_609)), (k_609 - (1 : Int)))))) ∧
 (¬ (i_436 < k_609) →
 Q data_606))) ∧
 (¬ ((b_10 - m_8) = (1 : Int)) →
 I64 (a_6 + b_10) ∧
 I64 ((IntKind.i64.wrap ((IntKind.u64.wrap (a_6 + b_10)) / 2)) + m_8) ∧
 VMeet (σ := Int × Int) (fun (start_757, r_759) =>
 I64 (((IntKind.i64.wrap ((IntKind.u64.wrap (a_6 + b_10)) / 2)) + m_8) - (1 : Int)) ∧
 VLoop (σ := Int × Int) (start_757, r_759) fun (start_824, r_826) xnext_885 =>
 (start_824 < r_826 →
 I64 (start_824 + r_826) ∧
 I64 ((((IntKind.i64.wrap ((IntKind.u64.wrap (a_6 + b_10)) / 2)) + m_8) - (1 : Int)) - (IntKind.i64.wrap ((IntKind.u64.wrap (start_824 + r_826)) / 2))) ∧
 In ((((IntKind.i64.wrap ((IntKind.u64.wrap (a_6 + b_10)) / 2)) + m_8) - (1 : Int)) - (IntKind.i64.wrap ((IntKind.u64.wrap (start_824 + r_826)) / 2))) data_1 ∧
 (I64 (ix data_1 ((((IntKind.i64.wrap ((IntKind.u64.wrap (a_6 + b_10)) / 2)) + m_8) - (1 : Int)) - (IntKind.i64.wrap ((IntKind.u64.wrap (start_824 + r_826)) / 2)))) →
 In (IntKind.i64.wrap ((IntKind.u64.wrap (start_824 + r_826)) / 2)) data_1 ∧
 (I64 (ix data_1 (IntKind.i64.wrap ((IntKind.u64.wrap (start_824 + r_826)) / 2))) →
 V_FunOf1 (ix data_1 ((((IntKind.i64.wrap ((IntKind.u64.wrap (a_6 + b_10)) / 2)) + m_8) - (1 : Int)) - (IntKind.i64.wrap ((IntKind.u64.wrap (start_824 + r_826)) / 2)))) (ix data_1 (IntKind.i64.wrap ((IntKind.u64.wrap (start_824 + r_826)) / 2))) c_13_16 fun r_929 =>
 (¬ (r_929 < (0 : Int)) →
 I64 ((IntKind.i64.wrap ((IntKind.u64.wrap (start_824 + r_826)) / 2)) + (1 : Int)) ∧
 xnext_885 (((IntKind.i64.wrap ((IntKind.u64.wrap (start_824 + r_826)) / 2)) + (1 : Int)), r_826)) ∧
 (r_929 < (0 : Int) →
 xnext_885 (start_824, (IntKind.i64.wrap ((IntKind.u64.wrap (start_824 + r_826)) / 2))))))) ∧
 (¬ (start_824 < r_826) →
 I64 (((IntKind.i64.wrap ((IntKind.u64.wrap (a_6 + b_10)) / 2)) + m_8) - start_824) ∧
 VMeet (σ := LI) (fun data_952 =>
 VMeet (σ := LI) (fun data_977 =>
 (((IntKind.i64.wrap ((IntKind.u64.wrap (a_6 + b_10)) / 2)) < (((IntKind.i64.wrap ((IntKind.u64.wrap (a_6 + b_10)) / 2)) + m_8) - start_824)) ∧ ((((IntKind.i64.wrap ((IntKind.u64.wrap (a_6 + b_10)) / 2)) + m_8) - start_824) < b_10) →
 V_symSF m0 data_977 (IntKind.i64.wrap ((IntKind.u64.wrap (a_6 + b_10)) / 2)) (((IntKind.i64.wrap ((IntKind.u64.wrap (a_6 + b_10)) / 2)) + m_8) - start_824) b_10 c_13_16 fun c_997 =>
 Q c_997) ∧
 (¬ (((IntKind.i64.wrap ((IntKind.u64.wrap (a_6 + b_10)) / 2)) < (((IntKind.i64.wrap ((IntKind.u64.wrap (a_6 + b_10)) / 2)) + m_8) - start_824)) ∧ ((((IntKind.i64.wrap ((IntKind.u64.wrap (a_6 + b_10)) / 2)) + m_8) - start_824) < b_10)) →
 Q data_977)) fun J_980 =>
 ((a_6 < start_824) ∧ (start_824 < (IntKind.i64.wrap ((IntKind.u64.wrap (a_6 + b_10)) / 2))) →
 V_symSF m0 data_952 a_6 start_824 (IntKind.i64.wrap ((IntKind.u64.wrap (a_6 + b_10)) / 2)) c_13_16 fun c_987 =>
 J_980 c_987) ∧
 (¬ ((a_6 < start_824) ∧ (start_824 < (IntKind.i64.wrap ((IntKind.u64.wrap (a_6 + b_10)) / 2)))) →
 J_980 data_952)) fun J_955 =>
 ((start_824 < m_8) ∧ (m_8 < (((IntKind.i64.wrap ((IntKind.u64.wrap (a_6 + b_10)) / 2)) + m_8) - start_824)) →
 V_rotSF data_1 start_824 m_8 (((IntKind.i64.wrap ((IntKind.u64.wrap (a_6 + b_10)) / 2)) + m_8) - start_824) c_13_16 fun c_962 =>
 J_955 c_962) ∧
 (¬ ((start_824 < m_8) ∧ (m_8 < (((IntKind.i64.wrap ((IntKind.u64.wrap (a_6 + b_10)) / 2)) + m_8) - start_824))) →
 J_955 data_1))) fun J_761 =>
 ((IntKind.i64.wrap ((IntKind.u64.wrap (a_6 + b_10)) / 2)) < m_8 →
 I64 (((IntKind.i64.wrap ((IntKind.u64.wrap (a_6 + b_10)) / 2)) + m_8) - b_10) ∧
 J_761 ((((IntKind.i64.wrap ((IntKind.u64.wrap (a_6 + b_10)) / 2)) + m_8) - b_10), (IntKind.i64.wrap ((IntKind.u64.wrap (a_6 + b_10)) / 2)))) ∧
 (¬ ((IntKind.i64.wrap ((IntKind.u64.wrap (a_6 + b_10)) / 2)) < m_8) →
 J_761 (a_6, m_8))))
def V_stabSF (data_1 : LI) (n_6 : Int) (c_9_12 : List (Val)) (Q : LI → Prop) : Prop :=
 VLoop (σ := LI × Int × Int) (data_1, (0 : Int), (20 : Int)) fun (data_23, a_26, b_28) xnext_40 =>
 (b_28 ≤ n_6 →
 V_insSF data_23 a_26 b_28 c_9_12 fun c_42 =>
 I64 (b_28 + (20 : Int)) ∧
 xnext_40 (c_42, b_28, (b_28 + (20 : Int)))) ∧
 (¬ (b_28 ≤ n_6) →
 V_insSF data_23 a_26 n_6 c_9_12 fun c_48 =>
 VLoop (σ := LI × Int) (c_48, (20 : Int)) fun (data_126, blockSize_129) xnext_207 =>
 (blockSize_129 < n_6 →
 I64 ((2 : Int) * blockSize_129) ∧
 VLoop (σ := LI × Int × Int) (data_126, (0 : Int), ((2 : Int) * blockSize_129)) fun (data_223, a_226, b_228) xnext_244 =>
 (b_228 ≤ n_6 →
 I64 (a_226 + blockSize_129) ∧
 ∃ mf, V_symSF mf data_223 a_226 (a_226 + blockSize_129) b_228 c_9_12 fun c_248 =>
 I64 ((2 : Int) * blockSize_129) ∧
 I64 (b_228 + ((2 : Int) * blockSize_129)) ∧
 xnext_244 (c_248, b_228, (b_228 + ((2 : Int) * blockSize_129)))) ∧
 (¬ (b_228 ≤ n_6) →
 VMeet (σ := LI) (fun data_264 =>
 I64 (blockSize_129 * (2 : Int)) ∧
 xnext_207 (data_264, (blockSize_129 * (2 : Int)))) fun J_267 =>
 I64 (a_226 + blockSize_129) ∧
 ((a_226 + blockSize_129) < n_6 →
 ∃ mf, V_symSF mf data_223 a_226 (a_226 + blockSize_129) n_6 c_9_12 fun c_272 =>
 J_267 c_272) ∧
 (¬ ((a_226 + blockSize_129) < n_6) →
 J_267 data_223))) ∧
 (¬ (blockSize_129 < n_6) →
 Q data_126))
def V_SortSF (x_1 : LI) (c_7_10 : List (Val)) (Q : LI → Prop) : Prop :=
 (Len x_1 →
 V_stabSF x_1 (x_1.length : Int) c_7_10 fun c_14 =>
 Q c_14)
def V_FunctionOf (keys_1 : List (Val)) (vals_4 : List (Val)) (Q : Val → Prop) : Prop :=
 (Len keys_1 →
 Made (keys_1.length : Int) 8 ∧
 (Len (List.replicate (keys_1.length : Int).toNat (0 : Int)) →
 VLoop (σ := LI × Int) ((List.replicate (keys_1.length : Int).toNat (0 : Int)), (0 : Int)) fun (order_28, x_32) xnext_45 =>
 (x_32 < ((List.replicate (keys_1.length : Int).toNat (0 : Int)).length : Int) →
 In x_32 order_28 ∧
 I64 (x_32 + (1 : Int)) ∧
 xnext_45 ((order_28.set x_32.toNat x_32), (x_32 + (1 : Int)))) ∧
 (¬ (x_32 < ((List.replicate (keys_1.length : Int).toNat (0 : Int)).length : Int)) →
 V_SortSF order_28 keys_1 fun c_54 =>
 (Len c_54 →
 VLoop (σ := (List (Val)) × (List (Val)) × Int × Int) (([] : List (Val)), ([] : List (Val)), (1 : Int), (0 : Int)) fun (c_498, c_503, c_507, x_509) xnext_947 =>
 (x_509 < (c_54.length : Int) →
 VMeet (σ := (List (Val)) × (List (Val)) × Int) (fun (c_1158, c_1163, c_1167) =>
 I64 (x_509 + (1 : Int)) ∧
 xnext_947 (c_1158, c_1163, c_1167, (x_509 + (1 : Int)))) fun J_1169 =>
 In x_509 c_54 ∧
 (I64 (ix c_54 x_509) →
 VMeet (σ := Bool) (fun x_1212 =>
 (x_1212 = true →
 J_1169 (c_498, c_503, c_507)) ∧
 (x_1212 = false →
 In (ix c_54 x_509) keys_1 ∧
 Room (c_498.length + ([(ix keys_1 (ix c_54 x_509))]).length) 16 ∧
 In (ix c_54 x_509) vals_4 ∧
 Room (c_503.length + ([(ix vals_4 (ix c_54 x_509))]).length) 16 ∧
 In (ix c_54 x_509) keys_1 ∧
 In (ix c_54 x_509) vals_4 ∧
 V_Weight (ix keys_1 (ix c_54 x_509)) fun r_1358 =>
 V_Weight (ix vals_4 (ix c_54 x_509)) fun r_1361 =>
 I64 (r_1358 + r_1361) ∧
 I64 (c_507 + (r_1358 + r_1361)) ∧
 ((1024 : Int) < (c_507 + (r_1358 + r_1361)) →
 Q Val.nil) ∧
 (¬ ((1024 : Int) < (c_507 + (r_1358 + r_1361))) →
 J_1169 ((c_498 ++ ([(ix keys_1 (ix c_54 x_509))])), (c_503 ++ ([(ix vals_4 (ix c_54 x_509))])), (c_507 + (r_1358 + r_1361)))))) fun J_1213 =>
 ((0 : Int) < x_509 →
 I64 (x_509 - (1 : Int)) ∧
 In (x_509 - (1 : Int)) c_54 ∧
 (I64 (ix c_54 (x_509 - (1 : Int))) →
 In (ix c_54 (x_509 - (1 : Int))) keys_1 ∧
 In (ix c_54 x_509) keys_1 ∧
 ∃ (mf_1244 : Nat) (r_1241 : Int), V_Compare mf_1244 (ix keys_1 (ix c_54 (x_509 - (1 : Int)))) (ix keys_1 (ix c_54 x_509)) (fun y0 => y0 = r_1241) ∧ I64 r_1241 ∧
 J_1213 (decide (r_1241 = (0 : Int))))) ∧
 (¬ ((0 : Int) < x_509) →
 J_1213 false))) ∧
 (¬ (x_509 < (c_54.length : Int)) →
 Q (Val.fn c_498 c_503 c_507))))))
def V_SequenceOf (l_1 : List (Val)) (Q : Val → Prop) : Prop :=
 (Len l_1 →
 Made (l_1.length : Int) 16 ∧
 (Len (List.replicate (l_1.length : Int).toNat Val.nil) →
 VLoop (σ := (List (Val)) × Int) ((List.replicate (l_1.length : Int).toNat Val.nil), (0 : Int)) fun (keys_50, x_54) xnext_74 =>
 (x_54 < ((List.replicate (l_1.length : Int).toNat Val.nil).length : Int) →
 I64 (x_54 + (1 : Int)) ∧
 V_Number (x_54 + (1 : Int)) fun r_78 =>
 In x_54 keys_50 ∧
 I64 (x_54 + (1 : Int)) ∧
 xnext_74 ((keys_50.set x_54.toNat r_78), (x_54 + (1 : Int)))) ∧
 (¬ (x_54 < ((List.replicate (l_1.length : Int).toNat Val.nil).length : Int)) →
 V_FunctionOf keys_50 l_1 fun r_93 =>
 Q r_93)))
def V_fail (text_4 : Str) (xat_5 : Int) (deep_7 : Int) (heavy_9 : Bool) (err_10 : Int) (E : Int → Int → Prop) (Q : Prop) : Prop :=
 E err_10 xat_5
def V_skip (text_4 : Str) (xat_5 : Int) (deep_7 : Int) (heavy_9 : Bool) (Q : Int → Prop) : Prop :=
 VLoop (σ := Int) xat_5 fun c_32 xnext_58 =>
 VMeet (σ := Bool) (fun x_67 =>
 (x_67 = true →
 I64 (c_32 + (1 : Int)) ∧
 xnext_58 (c_32 + (1 : Int))) ∧
 (x_67 = false →
 Q c_32)) fun J_68 =>
 Len text_4 ∧
 (c_32 < (text_4.length : Int) →
 In c_32 text_4 ∧
 ∃ (r_74 : Int), V_IndexByte ([32, 9, 10] : Str) (byte text_4 c_32) (fun y0 => y0 = r_74) ∧ I64 r_74 ∧
 J_68 (decide ((0 : Int) ≤ r_74))) ∧
 (¬ (c_32 < (text_4.length : Int)) →
 J_68 false)
def V_hasPre0 (s_1 : Str) (prefix_2 : Str) (Q : Bool → Prop) : Prop :=
 VMeet (σ := Bool) (fun x_9 =>
 Q x_9) fun J_10 =>
 Len s_1 ∧
 Len prefix_2 ∧
 ((prefix_2.length : Int) ≤ (s_1.length : Int) →
 Len prefix_2 ∧
 ((0 : Int) ≤ (prefix_2.length : Int) ∧ (prefix_2.length : Int) ≤ (s_1.length : Int)) ∧
 J_10 (decide ((s_1.take (prefix_2.length : Int).toNat) = prefix_2))) ∧
 (¬ ((prefix_2.length : Int) ≤ (s_1.length : Int)) →
 J_10 false)
def V_hasPre (s_1 : Str) (prefix_2 : Str) (Q : Bool → Prop) : Prop :=
 V_hasPre0 s_1 prefix_2 fun r_3 =>
 Q r_3
def V_take (text_4 : Str) (xat_5 : Int) (deep_7 : Int) (heavy_9 : Bool) (sign_10 : Str) (Q : Bool → Int → Prop) : Prop :=
 V_skip text_4 xat_5 deep_7 heavy_9 fun r_11 =>
 ((0 : Int) ≤ r_11 ∧ r_11 ≤ (text_4.length : Int)) ∧
 V_hasPre (text_4.drop r_11.toNat) sign_10 fun r_35 =>
 (r_35 = true →
 Len sign_10 ∧
 I64 (r_11 + (sign_10.length : Int)) ∧
 Q true (r_11 + (sign_10.length : Int))) ∧
 (r_35 = false →
 Q false r_11)
def V_want (text_4 : Str) (xat_5 : Int) (deep_7 : Int) (heavy_9 : Bool) (sign_10 : Str) (E : Int → Int → Prop) (Q : Int → Prop) : Prop :=
 V_take text_4 xat_5 deep_7 heavy_9 sign_10 fun r_11 r_12 =>
 ((!r_11) = true →
 V_fail text_4 r_12 deep_7 heavy_9 (1 : Int) E (
 Q r_12)) ∧
 ((!r_11) = false →
 Q r_12)
def V_inWord (c_1 : Int) (Q : Bool → Prop) : Prop :=
 Q (decide ((((((97 : Int) ≤ c_1) ∧ (c_1 ≤ (122 : Int))) ∨ (((65 : Int) ≤ c_1) ∧ (c_1 ≤ (90 : Int)))) ∨ (((48 : Int) ≤ c_1) ∧ (c_1 ≤ (57 : Int)))) ∨ (c_1 = (95 : Int))))
def V_word (text_4 : Str) (xat_5 : Int) (deep_7 : Int) (heavy_9 : Bool) (Q : Str → Prop) : Prop :=
 VLoop (σ := Int) xat_5 fun k_28 xnext_50 =>
 VMeet (σ := Bool) (fun x_57 =>
 (x_57 = true →
 I64 (k_28 + (1 : Int)) ∧
 xnext_50 (k_28 + (1 : Int))) ∧
 (x_57 = false →
 ((0 : Int) ≤ xat_5 ∧ xat_5 ≤ k_28 ∧ k_28 ≤ (text_4.length : Int)) ∧
 Q ((text_4.take k_28.toNat).drop xat_5.toNat))) fun J_58 =>
 Len text_4 ∧
 (k_28 < (text_4.length : Int) →
 In k_28 text_4 ∧
 V_inWord (byte text_4 k_28) fun r_64 =>
 J_58 r_64) ∧
 (¬ (k_28 < (text_4.length : Int)) →
 J_58 false)
def V_weighed (text_4 : Str) (xat_5 : Int) (deep_7 : Int) (heavy_9 : Bool) (v_10 : Val) (Q : Val → Bool → Prop) : Prop :=
 VMeet (σ := Bool) (fun c_18 =>
 Q v_10 c_18) fun J_19 =>
 (heavy_9 = true →
 J_19 true) ∧
 (heavy_9 = false →
 J_19 v_10.isNil)
def V_Reserved (s_1 : Str) (Q : Bool → Prop) : Prop :=
 VMeet (σ := Bool) (fun x_53 =>
 (x_53 = true →
 Q true) ∧
 (x_53 = false →
 Q false)) fun J_54 =>
 (s_1 = ([109, 111, 100, 117, 108, 101] : Str) →
 J_54 (decide (s_1 = ([109, 111, 100, 117, 108, 101] : Str)))) ∧
 (¬ (s_1 = ([109, 111, 100, 117, 108, 101] : Str)) →
 (s_1 = ([99, 111, 110, 115, 116, 97, 110, 116] : Str) →
 J_54 (decide (s_1 = ([99, 111, 110, 115, 116, 97, 110, 116] : Str)))) ∧
 (¬ (s_1 = ([99, 111, 110, 115, 116, 97, 110, 116] : Str)) →
 (s_1 = ([97, 116, 111, 109, 115] : Str) →
 J_54 (decide (s_1 = ([97, 116, 111, 109, 115] : Str)))) ∧
 (¬ (s_1 = ([97, 116, 111, 109, 115] : Str)) →
 (s_1 = ([115, 121, 109, 109, 101, 116, 114, 105, 99] : Str) →
 J_54 (decide (s_1 = ([115, 121, 109, 109, 101, 116, 114, 105, 99] : Str)))) ∧
 (¬ (s_1 = ([115, 121, 109, 109, 101, 116, 114, 105, 99] : Str)) →
 (s_1 = ([118, 97, 114, 105, 97, 98, 108, 101] : Str) →
 J_54 (decide (s_1 = ([118, 97, 114, 105, 97, 98, 108, 101] : Str)))) ∧
 (¬ (s_1 = ([118, 97, 114, 105, 97, 98, 108, 101] : Str)) →
 (s_1 = ([100, 101, 102, 105, 110, 101] : Str) →
 J_54 (decide (s_1 = ([100, 101, 102, 105, 110, 101] : Str)))) ∧
 (¬ (s_1 = ([100, 101, 102, 105, 110, 101] : Str)) →
 (s_1 = ([105, 110, 105, 116] : Str) →
 J_54 (decide (s_1 = ([105, 110, 105, 116] : Str)))) ∧
 (¬ (s_1 = ([105, 110, 105, 116] : Str)) →
 (s_1 = ([97, 99, 116, 105, 111, 110] : Str) →
 J_54 (decide (s_1 = ([97, 99, 116, 105, 111, 110] : Str)))) ∧
 (¬ (s_1 = ([97, 99, 116, 105, 111, 110] : Str)) →
 (s_1 = ([102, 97, 105, 114] : Str) →
 J_54 (decide (s_1 = ([102, 97, 105, 114] : Str)))) ∧
 (¬ (s_1 = ([102, 97, 105, 114] : Str)) →
 (s_1 = ([119, 101, 97, 107] : Str) →
 J_54 (decide (s_1 = ([119, 101, 97, 107] : Str)))) ∧
 (¬ (s_1 = ([119, 101, 97, 107] : Str)) →
 (s_1 = ([115, 116, 114, 111, 110, 103] : Str) →
 J_54 (decide (s_1 = ([115, 116, 114, 111, 110, 103] : Str)))) ∧
 (¬ (s_1 = ([115, 116, 114, 111, 110, 103] : Str)) →
 (s_1 = ([105, 110, 118, 97, 114, 105, 97, 110, 116] : Str) →
 J_54 (decide (s_1 = ([105, 110, 118, 97, 114, 105, 97, 110, 116] : Str)))) ∧
 (¬ (s_1 = ([105, 110, 118, 97, 114, 105, 97, 110, 116] : Str)) →
 (s_1 = ([112, 114, 111, 112, 101, 114, 116, 121] : Str) →
 J_54 (decide (s_1 = ([112, 114, 111, 112, 101, 114, 116, 121] : Str)))) ∧
 (¬ (s_1 = ([112, 114, 111, 112, 101, 114, 116, 121] : Str)) →
 (s_1 = ([97, 110, 100] : Str) →
 J_54 (decide (s_1 = ([97, 110, 100] : Str)))) ∧
 (¬ (s_1 = ([97, 110, 100] : Str)) →
 (s_1 = ([111, 114] : Str) →
 J_54 (decide (s_1 = ([111, 114] : Str)))) ∧
 (¬ (s_1 = ([111, 114] : Str)) →
 (s_1 = ([110, 111, 116] : Str) →
 J_54 (decide (s_1 = ([110, 111, 116] : Str)))) ∧
 (¬ (s_1 = ([110, 111, 116] : Str)) →
 (s_1 = ([105, 109, 112, 108, 105, 101, 115] : Str) →
 J_54 (decide (s_1 = ([105, 109, 112, 108, 105, 101, 115] : Str)))) ∧
 (¬ (s_1 = ([105, 109, 112, 108, 105, 101, 115] : Str)) →
 (s_1 = ([105, 102, 102] : Str) →
 J_54 (decide (s_1 = ([105, 102, 102] : Str)))) ∧
 (¬ (s_1 = ([105, 102, 102] : Str)) →
 (s_1 = ([105, 110] : Str) →
 J_54 (decide (s_1 = ([105, 110] : Str)))) ∧
 (¬ (s_1 = ([105, 110] : Str)) →
 (s_1 = ([117, 110, 105, 111, 110] : Str) →
 J_54 (decide (s_1 = ([117, 110, 105, 111, 110] : Str)))) ∧
 (¬ (s_1 = ([117, 110, 105, 111, 110] : Str)) →
 (s_1 = ([105, 110, 116, 101, 114] : Str) →
 J_54 (decide (s_1 = ([105, 110, 116, 101, 114] : Str)))) ∧
 (¬ (s_1 = ([105, 110, 116, 101, 114] : Str)) →
 (s_1 = ([109, 105, 110, 117, 115] : Str) →
 J_54 (decide (s_1 = ([109, 105, 110, 117, 115] : Str)))) ∧
 (¬ (s_1 = ([109, 105, 110, 117, 115] : Str)) →
 (s_1 = ([115, 117, 98, 115, 101, 116] : Str) →
 J_54 (decide (s_1 = ([115, 117, 98, 115, 101, 116] : Str)))) ∧
 (¬ (s_1 = ([115, 117, 98, 115, 101, 116] : Str)) →
 (s_1 = ([112, 111, 119, 101, 114, 115, 101, 116] : Str) →
 J_54 (decide (s_1 = ([112, 111, 119, 101, 114, 115, 101, 116] : Str)))) ∧
 (¬ (s_1 = ([112, 111, 119, 101, 114, 115, 101, 116] : Str)) →
 (s_1 = ([102, 108, 97, 116, 116, 101, 110] : Str) →
 J_54 (decide (s_1 = ([102, 108, 97, 116, 116, 101, 110] : Str)))) ∧
 (¬ (s_1 = ([102, 108, 97, 116, 116, 101, 110] : Str)) →
 (s_1 = ([100, 111, 109, 97, 105, 110] : Str) →
 J_54 (decide (s_1 = ([100, 111, 109, 97, 105, 110] : Str)))) ∧
 (¬ (s_1 = ([100, 111, 109, 97, 105, 110] : Str)) →
 (s_1 = ([117, 110, 99, 104, 97, 110, 103, 101, 100] : Str) →
 J_54 (decide (s_1 = ([117, 110, 99, 104, 97, 110, 103, 101, 100] : Str)))) ∧
 (¬ (s_1 = ([117, 110, 99, 104, 97, 110, 103, 101, 100] : Str)) →
 (s_1 = ([101, 110, 97, 98, 108, 101, 100] : Str) →
 J_54 (decide (s_1 = ([101, 110, 97, 98, 108, 101, 100] : Str)))) ∧
 (¬ (s_1 = ([101, 110, 97, 98, 108, 101, 100] : Str)) →
 (s_1 = ([97, 108, 119, 97, 121, 115] : Str) →
 J_54 (decide (s_1 = ([97, 108, 119, 97, 121, 115] : Str)))) ∧
 (¬ (s_1 = ([97, 108, 119, 97, 121, 115] : Str)) →
 (s_1 = ([101, 118, 101, 110, 116, 117, 97, 108, 108, 121] : Str) →
 J_54 (decide (s_1 = ([101, 118, 101, 110, 116, 117, 97, 108, 108, 121] : Str)))) ∧
 (¬ (s_1 = ([101, 118, 101, 110, 116, 117, 97, 108, 108, 121] : Str)) →
 (s_1 = ([117, 110, 116, 105, 108] : Str) →
 J_54 (decide (s_1 = ([117, 110, 116, 105, 108] : Str)))) ∧
 (¬ (s_1 = ([117, 110, 116, 105, 108] : Str)) →
 (s_1 = ([108, 101, 97, 100, 115, 116, 111] : Str) →
 J_54 (decide (s_1 = ([108, 101, 97, 100, 115, 116, 111] : Str)))) ∧
 (¬ (s_1 = ([108, 101, 97, 100, 115, 116, 111] : Str)) →
 (s_1 = ([99, 104, 111, 111, 115, 101] : Str) →
 J_54 (decide (s_1 = ([99, 104, 111, 111, 115, 101] : Str)))) ∧
 (¬ (s_1 = ([99, 104, 111, 111, 115, 101] : Str)) →
 (s_1 = ([97, 108, 108] : Str) →
 J_54 (decide (s_1 = ([97, 108, 108] : Str)))) ∧
 (¬ (s_1 = ([97, 108, 108] : Str)) →
 (s_1 = ([115, 111, 109, 101] : Str) →
 J_54 (decide (s_1 = ([115, 111, 109, 101] : Str)))) ∧
 (¬ (s_1 = ([115, 111, 109, 101] : Str)) →
 (s_1 = ([101, 97, 99, 104] : Str) →
 J_54 (decide (s_1 = ([101, 97, 99, 104] : Str)))) ∧
 (¬ (s_1 = ([101, 97, 99, 104] : Str)) →
 (s_1 = ([116, 104, 111, 115, 101] : Str) →
 J_54 (decide (s_1 = ([116, 104, 111, 115, 101] : Str)))) ∧
 (¬ (s_1 = ([116, 104, 111, 115, 101] : Str)) →
 (s_1 = ([102, 117, 110] : Str) →
 J_54 (decide (s_1 = ([102, 117, 110] : Str)))) ∧
 (¬ (s_1 = ([102, 117, 110] : Str)) →
 (s_1 = ([105, 102] : Str) →
 J_54 (decide (s_1 = ([105, 102] : Str)))) ∧
 (¬ (s_1 = ([105, 102] : Str)) →
 (s_1 = ([116, 104, 101, 110] : Str) →
 J_54 (decide (s_1 = ([116, 104, 101, 110] : Str)))) ∧
 (¬ (s_1 = ([116, 104, 101, 110] : Str)) →
 (s_1 = ([101, 108, 115, 101] : Str) →
 J_54 (decide (s_1 = ([101, 108, 115, 101] : Str)))) ∧
 (¬ (s_1 = ([101, 108, 115, 101] : Str)) →
 (s_1 = ([108, 101, 116] : Str) →
 J_54 (decide (s_1 = ([108, 101, 116] : Str)))) ∧
 (¬ (s_1 = ([108, 101, 116] : Str)) →
 (s_1 = ([110, 105, 108] : Str) →
 J_54 (decide (s_1 = ([110, 105, 108] : Str)))) ∧
 (¬ (s_1 = ([110, 105, 108] : Str)) →
 (s_1 = ([116, 114, 117, 101] : Str) →
 J_54 (decide (s_1 = ([116, 114, 117, 101] : Str)))) ∧
 (¬ (s_1 = ([116, 114, 117, 101] : Str)) →
 (s_1 = ([102, 97, 108, 115, 101] : Str) →
 J_54 (decide (s_1 = ([102, 97, 108, 115, 101] : Str)))) ∧
 (¬ (s_1 = ([102, 97, 108, 115, 101] : Str)) →
 (s_1 = ([115, 105, 122, 101] : Str) →
 J_54 (decide (s_1 = ([115, 105, 122, 101] : Str)))) ∧
 (¬ (s_1 = ([115, 105, 122, 101] : Str)) →
 (s_1 = ([108, 101, 110] : Str) →
 J_54 (decide (s_1 = ([108, 101, 110] : Str)))) ∧
 (¬ (s_1 = ([108, 101, 110] : Str)) →
 (s_1 = ([104, 101, 97, 100] : Str) →
 J_54 (decide (s_1 = ([104, 101, 97, 100] : Str)))) ∧
 (¬ (s_1 = ([104, 101, 97, 100] : Str)) →
 (s_1 = ([116, 97, 105, 108] : Str) →
 J_54 (decide (s_1 = ([116, 97, 105, 108] : Str)))) ∧
 (¬ (s_1 = ([116, 97, 105, 108] : Str)) →
 (s_1 = ([97, 112, 112, 101, 110, 100] : Str) →
 J_54 (decide (s_1 = ([97, 112, 112, 101, 110, 100] : Str)))) ∧
 (¬ (s_1 = ([97, 112, 112, 101, 110, 100] : Str)) →
 (s_1 = ([118, 97, 108, 117, 101, 115] : Str) →
 J_54 (decide (s_1 = ([118, 97, 108, 117, 101, 115] : Str)))) ∧
 (¬ (s_1 = ([118, 97, 108, 117, 101, 115] : Str)) →
 J_54 (decide (s_1 = ([115, 101, 113, 115] : Str))))))))))))))))))))))))))))))))))))))))))))))))))))))
def V_number (text_4 : Str) (xat_5 : Int) (deep_7 : Int) (heavy_9 : Bool) (w_10 : Str) (minus_11 : Bool) (E : Int → Int → Prop) (Q : Val → Int → Prop) : Prop :=
 Len w_10 ∧
 VLoop (σ := Int) (0 : Int) fun x_71 xnext_131 =>
 (x_71 < (w_10.length : Int) →
 VMeet (σ := Unit) (fun _ =>
 xnext_131 (IntKind.i64.wrap (x_71 + (1 : Int)))) fun J_159 =>
 VMeet (σ := Bool) (fun x_169 =>
 (x_169 = true →
 V_fail text_4 xat_5 deep_7 heavy_9 (1 : Int) E (
 J_159 ())) ∧
 (x_169 = false →
 J_159 ())) fun J_170 =>
 In x_71 w_10 ∧
 ((byte w_10 x_71) < (48 : Int) →
 J_170 true) ∧
 (¬ ((byte w_10 x_71) < (48 : Int)) →
 In x_71 w_10 ∧
 ((57 : Int) < (byte w_10 x_71) →
 J_170 true) ∧
 (¬ ((57 : Int) < (byte w_10 x_71)) →
 In (0 : Int) w_10 ∧
 ((byte w_10 (0 : Int)) = (48 : Int) →
 ((0 : Int) < x_71 →
 J_170 true) ∧
 (¬ ((0 : Int) < x_71) →
 J_170 minus_11)) ∧
 (¬ ((byte w_10 (0 : Int)) = (48 : Int)) →
 J_170 false)))) ∧
 (¬ (x_71 < (w_10.length : Int)) →
 V_ParseUint w_10 (10 : Int) (64 : Int) fun r_187 r_189 =>
 VMeet (σ := Unit) (fun _ =>
 Len w_10 ∧
 (minus_11 = true →
 V_Number (wneg (IntKind.i64.wrap r_187)) fun r_228 =>
 Q r_228 (IntKind.i64.wrap ((IntKind.i64.wrap (xat_5 + (w_10.length : Int))) + (1 : Int)))) ∧
 (minus_11 = false →
 V_Number (IntKind.i64.wrap r_187) fun r_234 =>
 Q r_234 (IntKind.i64.wrap (xat_5 + (w_10.length : Int))))) fun J_209 =>
 VMeet (σ := Bool) (fun x_214 =>
 (x_214 = true →
 V_fail text_4 xat_5 deep_7 heavy_9 (5 : Int) E (
 J_209 ())) ∧
 (x_214 = false →
 J_209 ())) fun J_215 =>
 ((!r_189) = true →
 J_215 true) ∧
 ((!r_189) = false →
 ((9223372036854775807 : Int) < r_187 →
 (minus_11 = true →
 J_215 (!(decide (r_187 = (9223372036854775808 : Int))))) ∧
 (minus_11 = false →
 J_215 (!false))) ∧
 (¬ ((9223372036854775807 : Int) < r_187) →
 J_215 false)))
def V_single (text_4 : Str) (xat_5 : Int) (deep_7 : Int) (heavy_9 : Bool) (E : Int → Int → Prop) (Q : Val → Int → Prop) : Prop :=
 ((0 : Int) ≤ xat_5 ∧ xat_5 ≤ (text_4.length : Int)) ∧
 VMeet (σ := Unit) (fun _ =>
 V_hasPre (text_4.drop xat_5.toNat) ([45] : Str) fun r_254 =>
 VMeet (σ := Int) (fun c_259 =>
 V_word text_4 c_259 deep_7 heavy_9 fun r_266 =>
 VMeet (σ := Int) (fun c_271 =>
 VMeet (σ := Bool) (fun x_282 =>
 (x_282 = true →
 V_number text_4 c_271 deep_7 heavy_9 r_266 r_254 E fun r_289 r_292 =>
 Q r_289 r_292) ∧
 (x_282 = false →
 VMeet (σ := Unit) (fun _ =>
 (r_266 = ([110, 105, 108] : Str) →
 Len r_266 ∧
 I64 (c_271 + (r_266.length : Int)) ∧
 Q Val.nil (c_271 + (r_266.length : Int))) ∧
 (¬ (r_266 = ([110, 105, 108] : Str)) →
 VMeet (σ := Bool) (fun x_341 =>
 (x_341 = true →
 Len r_266 ∧
 I64 (c_271 + (r_266.length : Int)) ∧
 V_Truth (decide (r_266 = ([116, 114, 117, 101] : Str))) fun r_348 =>
 Q r_348 (c_271 + (r_266.length : Int))) ∧
 (x_341 = false →
 VMeet (σ := Unit) (fun _ =>
 Len r_266 ∧
 I64 (c_271 + (r_266.length : Int)) ∧
 V_Atom r_266 fun r_395 =>
 Q r_395 (c_271 + (r_266.length : Int))) fun J_372 =>
 V_Reserved r_266 fun r_374 =>
 (r_374 = true →
 V_fail text_4 c_271 deep_7 heavy_9 (1 : Int) E (
 J_372 ())) ∧
 (r_374 = false →
 Len r_266 ∧
 ((16 : Int) < (r_266.length : Int) →
 V_fail text_4 c_271 deep_7 heavy_9 (5 : Int) E (
 J_372 ())) ∧
 (¬ ((16 : Int) < (r_266.length : Int)) →
 J_372 ())))) fun J_342 =>
 (r_266 = ([116, 114, 117, 101] : Str) →
 J_342 (decide (r_266 = ([116, 114, 117, 101] : Str)))) ∧
 (¬ (r_266 = ([116, 114, 117, 101] : Str)) →
 J_342 (decide (r_266 = ([102, 97, 108, 115, 101] : Str)))))) fun J_318 =>
 VMeet (σ := Bool) (fun x_323 =>
 (x_323 = true →
 V_fail text_4 c_271 deep_7 heavy_9 (1 : Int) E (
 J_318 ())) ∧
 (x_323 = false →
 J_318 ())) fun J_324 =>
 (r_266 = ([] : Str) →
 J_324 true) ∧
 (¬ (r_266 = ([] : Str)) →
 (r_254 = true →
 J_324 true) ∧
 (r_254 = false →
 In (0 : Int) r_266 ∧
 J_324 (decide ((byte r_266 (0 : Int)) = (95 : Int))))))) fun J_283 =>
 (r_266 ≠ ([] : Str) →
 In (0 : Int) r_266 ∧
 ((48 : Int) ≤ (byte r_266 (0 : Int)) →
 In (0 : Int) r_266 ∧
 J_283 (decide ((byte r_266 (0 : Int)) ≤ (57 : Int)))) ∧
 (¬ ((48 : Int) ≤ (byte r_266 (0 : Int))) →
 J_283 false)) ∧
 (¬ (r_266 ≠ ([] : Str)) →
 J_283 false)) fun J_273 =>
 (r_254 = true →
 I64 (c_259 - (1 : Int)) ∧
 J_273 (c_259 - (1 : Int))) ∧
 (r_254 = false →
 J_273 c_259)) fun J_261 =>
 (r_254 = true →
 I64 (xat_5 + (1 : Int)) ∧
 J_261 (xat_5 + (1 : Int))) ∧
 (r_254 = false →
 J_261 xat_5)) fun J_132 =>
 V_hasPre (text_4.drop xat_5.toNat) ([34] : Str) fun r_134 =>
 (r_134 = true →
 I64 (xat_5 + (1 : Int)) ∧
 VLoop (σ := Int) (xat_5 + (1 : Int)) fun k_172 xnext_210 =>
 VMeet (σ := Bool) (fun x_219 =>
 (x_219 = true →
 In k_172 text_4 ∧
 ((byte text_4 k_172) = (34 : Int) →
 I64 (xat_5 + (1 : Int)) ∧
 ((0 : Int) ≤ (xat_5 + (1 : Int)) ∧ (xat_5 + (1 : Int)) ≤ k_172 ∧ k_172 ≤ (text_4.length : Int)) ∧
 I64 (k_172 + (1 : Int)) ∧
 V_Text ((text_4.take k_172.toNat).drop (xat_5 + (1 : Int)).toNat) fun r_236 =>
 Q r_236 (k_172 + (1 : Int))) ∧
 (¬ ((byte text_4 k_172) = (34 : Int)) →
 I64 (k_172 + (1 : Int)) ∧
 xnext_210 (k_172 + (1 : Int)))) ∧
 (x_219 = false →
 V_fail text_4 xat_5 deep_7 heavy_9 (1 : Int) E (
 J_132 ()))) fun J_220 =>
 Len text_4 ∧
 (k_172 < (text_4.length : Int) →
 In k_172 text_4 ∧
 ((32 : Int) ≤ (byte text_4 k_172) →
 In k_172 text_4 ∧
 ((byte text_4 k_172) ≤ (126 : Int) →
 In k_172 text_4 ∧
 J_220 (decide ((byte text_4 k_172) ≠ (92 : Int)))) ∧
 (¬ ((byte text_4 k_172) ≤ (126 : Int)) →
 J_220 false)) ∧
 (¬ ((32 : Int) ≤ (byte text_4 k_172)) →
 J_220 false)) ∧
 (¬ (k_172 < (text_4.length : Int)) →
 J_220 false)) ∧
 (r_134 = false →
 J_132 ())
def V_value1 (G : Str → Int → Int → Bool → (Int → Int → Prop) → (Val → Int → Int → Bool → Prop) → Prop) (c_1_4 : List (Val)) (text_15 : Str) (xat_16 : Int) (deep_18 : Int) (heavy_20 : Bool) (E : Int → Int → Prop) (Q : (List (Val)) → Int → Int → Bool → Prop) : Prop :=
 G text_15 xat_16 deep_18 heavy_20 E fun r_25 r_28 r_30 r_32 =>
 Room (c_1_4.length + ([r_25]).length) 16 ∧
 Q (c_1_4 ++ ([r_25])) r_28 r_30 r_32
def V_value2 (G : Str → Int → Int → Bool → (Int → Int → Prop) → (Val → Int → Int → Bool → Prop) → Prop) (c_1_4 : List (Val)) (text_15 : Str) (xat_16 : Int) (deep_18 : Int) (heavy_20 : Bool) (c_25_28 : List (Val)) (E : Int → Int → Prop) (Q : (List (Val)) → Int → Int → Bool → (List (Val)) → Prop) : Prop :=
 G text_15 xat_16 deep_18 heavy_20 E fun r_38 r_41 r_43 r_45 =>
 Room (c_1_4.length + ([r_38]).length) 16 ∧
 V_want text_15 r_41 r_43 r_45 ([58] : Str) E fun r_62 =>
 V_value1 G c_25_28 text_15 r_62 r_43 r_45 E fun c_70 r_74 r_76 r_78 =>
 Q (c_1_4 ++ ([r_38])) r_74 r_76 r_78 c_70
def V_list (G : Str → Int → Int → Bool → (Int → Int → Prop) → (Val → Int → Int → Bool → Prop) → Prop) (text_4 : Str) (xat_5 : Int) (deep_7 : Int) (heavy_9 : Bool) (last_10 : Str) (c_12_15 : List (Val)) (E : Int → Int → Prop) (Q : Int → Int → Bool → (List (Val)) → Prop) : Prop :=
 VMeet (σ := Int) (fun c_34 =>
 Len last_10 ∧
 I64 (xat_5 + (last_10.length : Int)) ∧
 VMeet (σ := Int × Int × Bool × (List (Val))) (fun (c_189, c_191, c_193, c_195) =>
 I64 (c_191 - (1 : Int)) ∧
 Q c_189 (c_191 - (1 : Int)) c_193 c_195) fun J_199 =>
 V_take text_4 (xat_5 + (last_10.length : Int)) c_34 heavy_9 last_10 fun r_201 r_202 =>
 ((!r_201) = true →
 V_value1 G c_12_15 text_4 r_202 c_34 heavy_9 E fun c_205 r_209 r_211 r_213 =>
 VLoop (σ := Int × Int × Bool × (List (Val))) (r_209, r_211, r_213, c_205) fun (c_270, c_272, c_274, c_276) xnext_304 =>
 V_take text_4 c_270 c_272 c_274 ([44] : Str) fun r_305 r_306 =>
 (r_305 = true →
 V_value1 G c_276 text_4 r_306 c_272 c_274 E fun c_309 r_313 r_315 r_317 =>
 xnext_304 (r_313, r_315, r_317, c_309)) ∧
 (r_305 = false →
 V_want text_4 r_306 c_272 c_274 last_10 E fun r_326 =>
 J_199 (r_326, c_272, c_274, c_276))) ∧
 ((!r_201) = false →
 J_199 (r_202, c_34, heavy_9, c_12_15))) fun J_36 =>
 I64 (deep_7 + (1 : Int)) ∧
 ((24 : Int) < (deep_7 + (1 : Int)) →
 V_fail text_4 xat_5 (deep_7 + (1 : Int)) heavy_9 (6 : Int) E (
 J_36 (deep_7 + (1 : Int)))) ∧
 (¬ ((24 : Int) < (deep_7 + (1 : Int))) →
 J_36 (deep_7 + (1 : Int)))
def V_pairs (G : Str → Int → Int → Bool → (Int → Int → Prop) → (Val → Int → Int → Bool → Prop) → Prop) (text_4 : Str) (xat_5 : Int) (deep_7 : Int) (heavy_9 : Bool) (c_11_14 : List (Val)) (c_27_30 : List (Val)) (E : Int → Int → Prop) (Q : Int → Int → Bool → (List (Val)) → (List (Val)) → Prop) : Prop :=
 VMeet (σ := Int) (fun c_46 =>
 I64 (xat_5 + (1 : Int)) ∧
 V_value2 G c_11_14 text_4 (xat_5 + (1 : Int)) c_46 heavy_9 c_27_30 E fun c_62 r_66 r_68 r_70 c_71 =>
 VLoop (σ := Int × Int × Bool × (List (Val)) × (List (Val))) (r_66, r_68, r_70, c_71, c_62) fun (c_142, c_144, c_146, c_148, c_153) xnext_186 =>
 V_take text_4 c_142 c_144 c_146 ([44] : Str) fun r_187 r_188 =>
 (r_187 = true →
 V_value2 G c_153 text_4 r_188 c_144 c_146 c_148 E fun c_191 r_195 r_197 r_199 c_200 =>
 xnext_186 (r_195, r_197, r_199, c_200, c_191)) ∧
 (r_187 = false →
 V_want text_4 r_188 c_144 c_146 ([93] : Str) E fun r_213 =>
 I64 (c_144 - (1 : Int)) ∧
 Q r_213 (c_144 - (1 : Int)) c_146 c_153 c_148)) fun J_48 =>
 I64 (deep_7 + (1 : Int)) ∧
 ((24 : Int) < (deep_7 + (1 : Int)) →
 V_fail text_4 xat_5 (deep_7 + (1 : Int)) heavy_9 (6 : Int) E (
 J_48 (deep_7 + (1 : Int)))) ∧
 (¬ ((24 : Int) < (deep_7 + (1 : Int))) →
 J_48 (deep_7 + (1 : Int)))
def V_value : Nat → Str → Int → Int → Bool → (Int → Int → Prop) → (Val → Int → Int → Bool → Prop) → Prop
 | 0, _, _, _, _, _, _ => False
 | m0 + 1, text_4, xat_5, deep_7, heavy_9, E, Q =>
 V_skip text_4 xat_5 deep_7 heavy_9 fun r_14 =>
 ((0 : Int) ≤ r_14 ∧ r_14 ≤ (text_4.length : Int)) ∧
 V_hasPre (text_4.drop r_14.toNat) ([123] : Str) fun r_26 =>
 (r_26 = true →
 V_list (V_value m0) text_4 r_14 deep_7 heavy_9 ([125] : Str) ([] : List (Val)) E fun r_28 r_30 r_32 c_33 =>
 V_SetOf c_33 fun r_49 =>
 V_weighed text_4 r_28 r_30 r_32 r_49 fun r_54 r_57 =>
 Q r_54 r_28 r_30 r_57) ∧
 (r_26 = false →
 V_hasPre (text_4.drop r_14.toNat) ([60, 60] : Str) fun r_61 =>
 (r_61 = true →
 V_list (V_value m0) text_4 r_14 deep_7 heavy_9 ([62, 62] : Str) ([] : List (Val)) E fun r_63 r_65 r_67 c_68 =>
 V_SequenceOf c_68 fun r_87 =>
 V_weighed text_4 r_63 r_65 r_67 r_87 fun r_92 r_95 =>
 Q r_92 r_63 r_65 r_95) ∧
 (r_61 = false →
 V_hasPre (text_4.drop r_14.toNat) ([91] : Str) fun r_99 =>
 (r_99 = true →
 V_pairs (V_value m0) text_4 r_14 deep_7 heavy_9 ([] : List (Val)) ([] : List (Val)) E fun r_101 r_103 r_105 c_106 c_110 =>
 V_FunctionOf c_106 c_110 fun r_135 =>
 V_weighed text_4 r_101 r_103 r_105 r_135 fun r_140 r_143 =>
 Q r_140 r_101 r_103 r_143) ∧
 (r_99 = false →
 V_single text_4 r_14 deep_7 heavy_9 E fun r_147 r_150 =>
 Q r_147 r_150 deep_7 heavy_9)))
def V_rtexts (a_1 : Str) (b_2 : Str) (Q : Int → Prop) : Prop :=
 ((sLt a_1 b_2) = true →
 Q (-1)) ∧
 ((sLt a_1 b_2) = false →
 ((!(sLt a_1 b_2 || decide (a_1 = b_2))) = true →
 Q (1 : Int)) ∧
 ((!(sLt a_1 b_2 || decide (a_1 = b_2))) = false →
 Q (0 : Int)))
def V_rlists (G : RV → RV → (Int → Prop) → Prop) (a_1 : List RV) (b_4 : List RV) (Q : Int → Prop) : Prop :=
 (Len a_1 →
 (Len b_4 →
 ((a_1.length : Int) < (b_4.length : Int) →
 Q (-1)) ∧
 (¬ ((a_1.length : Int) < (b_4.length : Int)) →
 (Len a_1 →
 (Len b_4 →
 ((b_4.length : Int) < (a_1.length : Int) →
 Q (1 : Int)) ∧
 (¬ ((b_4.length : Int) < (a_1.length : Int)) →
 VLoop (σ := Int) (0 : Int) fun i_61 xnext_113 =>
 (Len a_1 →
 (i_61 < (a_1.length : Int) →
 In i_61 a_1 ∧
 (I64 (ix a_1 i_61).k → I64 (ix a_1 i_61).i →
 In i_61 b_4 ∧
 (I64 (ix b_4 i_61).k → I64 (ix b_4 i_61).i →
 G (ix a_1 i_61) (ix b_4 i_61) fun r_152 =>
 (r_152 ≠ (0 : Int) →
 Q r_152) ∧
 (¬ (r_152 ≠ (0 : Int)) →
 I64 (i_61 + (1 : Int)) ∧
 xnext_113 (i_61 + (1 : Int)))))) ∧
 (¬ (i_61 < (a_1.length : Int)) →
 Q (0 : Int)))))))))
def V_rCompare : Nat → RV → RV → (Int → Prop) → Prop
 | 0, _, _, _ => False
 | m0 + 1, a_1, b_8, Q =>
 (a_1.k < b_8.k →
 Q (-1)) ∧
 (¬ (a_1.k < b_8.k) →
 (b_8.k < a_1.k →
 Q (1 : Int)) ∧
 (¬ (b_8.k < a_1.k) →
 (a_1.i < b_8.i →
 Q (-1)) ∧
 (¬ (a_1.i < b_8.i) →
 (b_8.i < a_1.i →
 Q (1 : Int)) ∧
 (¬ (b_8.i < a_1.i) →
 V_rtexts a_1.t b_8.t fun r_23 =>
 VMeet (σ := Int) (fun c_31 =>
 VMeet (σ := Int) (fun c_45 =>
 Q c_45) fun J_47 =>
 (c_31 = (0 : Int) →
 V_rlists (V_rCompare m0) a_1.vs b_8.vs fun r_50 =>
 J_47 r_50) ∧
 (¬ (c_31 = (0 : Int)) →
 J_47 c_31)) fun J_33 =>
 (r_23 = (0 : Int) →
 V_rlists (V_rCompare m0) a_1.ks b_8.ks fun r_36 =>
 J_33 r_36) ∧
 (¬ (r_23 = (0 : Int)) →
 J_33 r_23)))))
def V_rWeight : Nat → RV → (Int → Prop) → Prop
 | 0, _, _ => False
 | m0 + 1, v_1, Q =>
 VLoop (σ := Int × Int) ((1 : Int), (0 : Int)) fun (n_30, i_32) xnext_56 =>
 (Len v_1.ks →
 (i_32 < (v_1.ks.length : Int) →
 In i_32 v_1.ks ∧
 (I64 (ix v_1.ks i_32).k → I64 (ix v_1.ks i_32).i →
 V_rWeight m0 (ix v_1.ks i_32) fun r_69 =>
 I64 (n_30 + r_69) ∧
 I64 (i_32 + (1 : Int)) ∧
 xnext_56 ((n_30 + r_69), (i_32 + (1 : Int))))) ∧
 (¬ (i_32 < (v_1.ks.length : Int)) →
 VLoop (σ := Int × Int) (n_30, (0 : Int)) fun (n_96, i_98) xnext_122 =>
 (Len v_1.vs →
 (i_98 < (v_1.vs.length : Int) →
 In i_98 v_1.vs ∧
 (I64 (ix v_1.vs i_98).k → I64 (ix v_1.vs i_98).i →
 V_rWeight m0 (ix v_1.vs i_98) fun r_135 =>
 I64 (n_96 + r_135) ∧
 I64 (i_98 + (1 : Int)) ∧
 xnext_122 ((n_96 + r_135), (i_98 + (1 : Int))))) ∧
 (¬ (i_98 < (v_1.vs.length : Int)) →
 Q n_96))))
def V_rLight (v_1 : RV) (Q : RV → Prop) : Prop :=
 ∃ mf, V_rWeight mf v_1 fun r_14 =>
 ((1024 : Int) < r_14 →
 Q (RV.mk 0 0 ([] : Str) ([] : List RV) ([] : List RV))) ∧
 (¬ ((1024 : Int) < r_14) →
 Q v_1)
def V_rTruth (b_1 : Bool) (Q : RV → Prop) : Prop :=
 (b_1 = true →
 Q (RV.mk (1 : Int) (1 : Int) ([] : Str) ([] : List RV) ([] : List RV))) ∧
 (b_1 = false →
 Q (RV.mk (1 : Int) 0 ([] : Str) ([] : List RV) ([] : List RV)))
def V_rNumber (n_1 : Int) (Q : RV → Prop) : Prop :=
 Q (RV.mk (2 : Int) n_1 ([] : Str) ([] : List RV) ([] : List RV))
def V_rplace (l_1 : List RV) (v_4 : RV) (Q : Int → Bool → Prop) : Prop :=
 (Len l_1 →
 VLoop (σ := Int × Int) ((0 : Int), (l_1.length : Int)) fun (a_50, b_52) xnext_92 =>
 (a_50 < b_52 →
 I64 (a_50 + b_52) ∧
 (((2 : Int) : Int) ≠ 0 ∧ I64 ((a_50 + b_52).tdiv (2 : Int))) ∧
 In ((a_50 + b_52).tdiv (2 : Int)) l_1 ∧
 (I64 (ix l_1 ((a_50 + b_52).tdiv (2 : Int))).k → I64 (ix l_1 ((a_50 + b_52).tdiv (2 : Int))).i →
 ∃ mf, V_rCompare mf (ix l_1 ((a_50 + b_52).tdiv (2 : Int))) v_4 fun r_117 =>
 (r_117 = (0 : Int) →
 Q ((a_50 + b_52).tdiv (2 : Int)) true) ∧
 (¬ (r_117 = (0 : Int)) →
 (r_117 < (0 : Int) →
 I64 (((a_50 + b_52).tdiv (2 : Int)) + (1 : Int)) ∧
 xnext_92 ((((a_50 + b_52).tdiv (2 : Int)) + (1 : Int)), b_52)) ∧
 (¬ (r_117 < (0 : Int)) →
 xnext_92 (a_50, ((a_50 + b_52).tdiv (2 : Int))))))) ∧
 (¬ (a_50 < b_52) →
 Q a_50 false))
def V_rput (l_1 : List RV) (i_6 : Int) (v_8 : RV) (Q : (List RV) → Prop) : Prop :=
 Room (l_1.length + ([(RV.mk 0 0 ([] : Str) ([] : List RV) ([] : List RV))]).length) 80 ∧
 (Len (l_1 ++ ([(RV.mk 0 0 ([] : Str) ([] : List RV) ([] : List RV))])) →
 I64 (((l_1 ++ ([(RV.mk 0 0 ([] : Str) ([] : List RV) ([] : List RV))])).length : Int) - (1 : Int)) ∧
 VLoop (σ := (List RV) × Int) ((l_1 ++ ([(RV.mk 0 0 ([] : Str) ([] : List RV) ([] : List RV))])), (((l_1 ++ ([(RV.mk 0 0 ([] : Str) ([] : List RV) ([] : List RV))])).length : Int) - (1 : Int))) fun (l_54, k_58) xnext_83 =>
 (i_6 < k_58 →
 I64 (k_58 - (1 : Int)) ∧
 In (k_58 - (1 : Int)) l_54 ∧
 (I64 (ix l_54 (k_58 - (1 : Int))).k → I64 (ix l_54 (k_58 - (1 : Int))).i →
 In k_58 l_54 ∧
 I64 (k_58 - (1 : Int)) ∧
 xnext_83 ((l_54.set k_58.toNat (ix l_54 (k_58 - (1 : Int)))), (k_58 - (1 : Int))))) ∧
 (¬ (i_6 < k_58) →
 In i_6 l_54 ∧
 Q (l_54.set i_6.toNat v_8)))
def V_rSetOf (l_1 : List RV) (Q : RV → Prop) : Prop :=
 VLoop (σ := (List RV) × Int) (([] : List RV), (0 : Int)) fun (c_327, i_331) xnext_495 =>
 (Len l_1 →
 (i_331 < (l_1.length : Int) →
 VMeet (σ := (List RV)) (fun c_574 =>
 I64 (i_331 + (1 : Int)) ∧
 xnext_495 (c_574, (i_331 + (1 : Int)))) fun J_578 =>
 In i_331 l_1 ∧
 (I64 (ix l_1 i_331).k → I64 (ix l_1 i_331).i →
 V_rplace c_327 (ix l_1 i_331) fun r_603 r_605 =>
 ((!r_605) = true →
 In i_331 l_1 ∧
 (I64 (ix l_1 i_331).k → I64 (ix l_1 i_331).i →
 V_rput c_327 r_603 (ix l_1 i_331) fun r_643 =>
 J_578 r_643)) ∧
 ((!r_605) = false →
 J_578 c_327))) ∧
 (¬ (i_331 < (l_1.length : Int)) →
 V_rLight (RV.mk (5 : Int) 0 ([] : Str) c_327 ([] : List RV)) fun r_658 =>
 Q r_658))
def V_rFunOf (keys_1 : List RV) (vals_4 : List RV) (Q : RV → Prop) : Prop :=
 VLoop (σ := (List RV) × (List RV) × Int) (([] : List RV), ([] : List RV), (0 : Int)) fun (c_472, c_477, i_481) xnext_716 =>
 (Len keys_1 →
 (i_481 < (keys_1.length : Int) →
 VMeet (σ := (List RV) × (List RV)) (fun (c_828, c_833) =>
 I64 (i_481 + (1 : Int)) ∧
 xnext_716 (c_828, c_833, (i_481 + (1 : Int)))) fun J_837 =>
 In i_481 keys_1 ∧
 (I64 (ix keys_1 i_481).k → I64 (ix keys_1 i_481).i →
 V_rplace c_472 (ix keys_1 i_481) fun r_862 r_864 =>
 ((!r_864) = true →
 In i_481 keys_1 ∧
 (I64 (ix keys_1 i_481).k → I64 (ix keys_1 i_481).i →
 V_rput c_472 r_862 (ix keys_1 i_481) fun r_902 =>
 In i_481 vals_4 ∧
 (I64 (ix vals_4 i_481).k → I64 (ix vals_4 i_481).i →
 V_rput c_477 r_862 (ix vals_4 i_481) fun r_935 =>
 J_837 (r_902, r_935)))) ∧
 ((!r_864) = false →
 J_837 (c_472, c_477)))) ∧
 (¬ (i_481 < (keys_1.length : Int)) →
 V_rLight (RV.mk (6 : Int) 0 ([] : Str) c_472 c_477) fun r_953 =>
 Q r_953))
def V_rSeqOf (l_1 : List RV) (Q : RV → Prop) : Prop :=
 VLoop (σ := (List RV) × (List RV) × Int) (([] : List RV), ([] : List RV), (0 : Int)) fun (c_143, c_148, i_152) xnext_218 =>
 (Len l_1 →
 (i_152 < (l_1.length : Int) →
 I64 (i_152 + (1 : Int)) ∧
 V_rNumber (i_152 + (1 : Int)) fun r_223 =>
 Room (c_143.length + ([r_223]).length) 80 ∧
 In i_152 l_1 ∧
 (I64 (ix l_1 i_152).k → I64 (ix l_1 i_152).i →
 Room (c_148.length + ([(ix l_1 i_152)]).length) 80 ∧
 I64 (i_152 + (1 : Int)) ∧
 xnext_218 ((c_143 ++ ([r_223])), (c_148 ++ ([(ix l_1 i_152)])), (i_152 + (1 : Int))))) ∧
 (¬ (i_152 < (l_1.length : Int)) →
 V_rLight (RV.mk (6 : Int) 0 ([] : Str) c_143 c_148) fun r_286 =>
 Q r_286))
def V_rSeq (v_1 : RV) (Q : Bool → Prop) : Prop :=
 VLoop (σ := Int) (0 : Int) fun i_69 xnext_132 =>
 (Len v_1.ks →
 (i_69 < (v_1.ks.length : Int) →
 VMeet (σ := Bool) (fun x_160 =>
 (x_160 = true →
 Q false) ∧
 (x_160 = false →
 I64 (i_69 + (1 : Int)) ∧
 xnext_132 (i_69 + (1 : Int)))) fun J_161 =>
 In i_69 v_1.ks ∧
 (I64 ((ix v_1.ks i_69).k) →
 (((ix v_1.ks i_69).k) ≠ (2 : Int) →
 J_161 true) ∧
 (¬ (((ix v_1.ks i_69).k) ≠ (2 : Int)) →
 In i_69 v_1.ks ∧
 (I64 ((ix v_1.ks i_69).i) →
 I64 (i_69 + (1 : Int)) ∧
 J_161 (decide (((ix v_1.ks i_69).i) ≠ (i_69 + (1 : Int)))))))) ∧
 (¬ (i_69 < (v_1.ks.length : Int)) →
 Q (decide (v_1.k = (6 : Int)))))
def V_rDigits (n_1 : Int) (Q : Str → Prop) : Prop :=
 VMeet (σ := Int) (fun u_5 =>
 VLoop (σ := Int × Str) (u_5, ([] : Str)) fun (u_19, s_21) xnext_32 =>
 ((9 : Int) < u_19 →
 ((0 : Int) < (10 : Int)) ∧
 I64 ((([u8 (IntKind.u8.wrap (IntKind.u64.wrap ((48 : Int) + (u_19.tmod (10 : Int)))))]).length : Int) + s_21.length) ∧
 ((0 : Int) < (10 : Int)) ∧
 xnext_32 ((u_19.tdiv (10 : Int)), (([u8 (IntKind.u8.wrap (IntKind.u64.wrap ((48 : Int) + (u_19.tmod (10 : Int)))))]) ++ s_21))) ∧
 (¬ ((9 : Int) < u_19) →
 I64 ((([u8 (IntKind.u8.wrap (IntKind.u64.wrap ((48 : Int) + u_19)))]).length : Int) + s_21.length) ∧
 (n_1 < (0 : Int) →
 I64 ((([45] : Str).length : Int) + (([u8 (IntKind.u8.wrap (IntKind.u64.wrap ((48 : Int) + u_19)))]) ++ s_21).length) ∧
 Q (([45] : Str) ++ (([u8 (IntKind.u8.wrap (IntKind.u64.wrap ((48 : Int) + u_19)))]) ++ s_21))) ∧
 (¬ (n_1 < (0 : Int)) →
 Q (([u8 (IntKind.u8.wrap (IntKind.u64.wrap ((48 : Int) + u_19)))]) ++ s_21)))) fun J_7 =>
 (n_1 < (0 : Int) →
 J_7 (IntKind.u64.wrap (-(IntKind.u64.wrap n_1)))) ∧
 (¬ (n_1 < (0 : Int)) →
 J_7 (IntKind.u64.wrap n_1))
def V_rshown (G : RV → (Str → Prop) → Prop) (l_1 : List RV) (Q : Str → Prop) : Prop :=
 VLoop (σ := Str × Int) (([] : Str), (0 : Int)) fun (s_31, i_32) xnext_63 =>
 (Len l_1 →
 (i_32 < (l_1.length : Int) →
 VMeet (σ := Str) (fun s_69 =>
 In i_32 l_1 ∧
 (I64 (ix l_1 i_32).k → I64 (ix l_1 i_32).i →
 G (ix l_1 i_32) fun r_85 =>
 I64 ((s_69.length : Int) + r_85.length) ∧
 I64 (i_32 + (1 : Int)) ∧
 xnext_63 ((s_69 ++ r_85), (i_32 + (1 : Int))))) fun J_70 =>
 ((0 : Int) < i_32 →
 I64 ((s_31.length : Int) + ([44, 32] : Str).length) ∧
 J_70 (s_31 ++ ([44, 32] : Str))) ∧
 (¬ ((0 : Int) < i_32) →
 J_70 s_31)) ∧
 (¬ (i_32 < (l_1.length : Int)) →
 Q s_31))
def V_rShow : Nat → RV → (Str → Prop) → Prop
 | 0, _, _ => False
 | m0 + 1, v_1, Q =>
 (v_1.k = (1 : Int) →
 (v_1.i = (1 : Int) →
 Q ([116, 114, 117, 101] : Str)) ∧
 (¬ (v_1.i = (1 : Int)) →
 Q ([102, 97, 108, 115, 101] : Str))) ∧
 (¬ (v_1.k = (1 : Int)) →
 (v_1.k = (2 : Int) →
 V_rDigits v_1.i fun r_14 =>
 Q r_14) ∧
 (¬ (v_1.k = (2 : Int)) →
 (v_1.k = (3 : Int) →
 I64 ((([34] : Str).length : Int) + v_1.t.length) ∧
 I64 (((([34] : Str) ++ v_1.t).length : Int) + ([34] : Str).length) ∧
 Q ((([34] : Str) ++ v_1.t) ++ ([34] : Str))) ∧
 (¬ (v_1.k = (3 : Int)) →
 (v_1.k = (4 : Int) →
 Q v_1.t) ∧
 (¬ (v_1.k = (4 : Int)) →
 (v_1.k = (5 : Int) →
 V_rshown (V_rShow m0) v_1.ks fun r_21 =>
 I64 ((([123] : Str).length : Int) + r_21.length) ∧
 I64 (((([123] : Str) ++ r_21).length : Int) + ([125] : Str).length) ∧
 Q ((([123] : Str) ++ r_21) ++ ([125] : Str))) ∧
 (¬ (v_1.k = (5 : Int)) →
 (v_1.k = (6 : Int) →
 V_rSeq v_1 fun r_26 =>
 (r_26 = true →
 V_rshown (V_rShow m0) v_1.vs fun r_28 =>
 I64 ((([60, 60] : Str).length : Int) + r_28.length) ∧
 I64 (((([60, 60] : Str) ++ r_28).length : Int) + ([62, 62] : Str).length) ∧
 Q ((([60, 60] : Str) ++ r_28) ++ ([62, 62] : Str))) ∧
 (r_26 = false →
 VLoop (σ := Str × Int) (([] : Str), (0 : Int)) fun (s_73, i_74) xnext_119 =>
 (Len v_1.ks →
 (i_74 < (v_1.ks.length : Int) →
 VMeet (σ := Str) (fun s_125 =>
 In i_74 v_1.ks ∧
 (I64 (ix v_1.ks i_74).k → I64 (ix v_1.ks i_74).i →
 V_rShow m0 (ix v_1.ks i_74) fun r_141 =>
 In i_74 v_1.vs ∧
 (I64 (ix v_1.vs i_74).k → I64 (ix v_1.vs i_74).i →
 V_rShow m0 (ix v_1.vs i_74) fun r_153 =>
 I64 ((s_125.length : Int) + r_141.length) ∧
 I64 (((s_125 ++ r_141).length : Int) + ([58, 32] : Str).length) ∧
 I64 ((((s_125 ++ r_141) ++ ([58, 32] : Str)).length : Int) + r_153.length) ∧
 I64 (i_74 + (1 : Int)) ∧
 xnext_119 ((((s_125 ++ r_141) ++ ([58, 32] : Str)) ++ r_153), (i_74 + (1 : Int)))))) fun J_126 =>
 ((0 : Int) < i_74 →
 I64 ((s_73.length : Int) + ([44, 32] : Str).length) ∧
 J_126 (s_73 ++ ([44, 32] : Str))) ∧
 (¬ ((0 : Int) < i_74) →
 J_126 s_73)) ∧
 (¬ (i_74 < (v_1.ks.length : Int)) →
 I64 ((([91] : Str).length : Int) + s_73.length) ∧
 I64 (((([91] : Str) ++ s_73).length : Int) + ([93] : Str).length) ∧
 Q ((([91] : Str) ++ s_73) ++ ([93] : Str)))))) ∧
 (¬ (v_1.k = (6 : Int)) →
 Q ([110, 105, 108] : Str)))))))
def V_rReserved (s_1 : Str) (Q : Bool → Prop) : Prop :=
 VLoop (σ := Int) (0 : Int) fun i_17 xnext_32 =>
 (Len ([([109, 111, 100, 117, 108, 101] : Str), ([99, 111, 110, 115, 116, 97, 110, 116] : Str), ([97, 116, 111, 109, 115] : Str), ([115, 121, 109, 109, 101, 116, 114, 105, 99] : Str), ([118, 97, 114, 105, 97, 98, 108, 101] : Str), ([100, 101, 102, 105, 110, 101] : Str), ([105, 110, 105, 116] : Str), ([97, 99, 116, 105, 111, 110] : Str), ([102, 97, 105, 114] : Str), ([119, 101, 97, 107] : Str), ([115, 116, 114, 111, 110, 103] : Str), ([105, 110, 118, 97, 114, 105, 97, 110, 116] : Str), ([112, 114, 111, 112, 101, 114, 116, 121] : Str), ([97, 110, 100] : Str), ([111, 114] : Str), ([110, 111, 116] : Str), ([105, 109, 112, 108, 105, 101, 115] : Str), ([105, 102, 102] : Str), ([105, 110] : Str), ([117, 110, 105, 111, 110] : Str), ([105, 110, 116, 101, 114] : Str), ([109, 105, 110, 117, 115] : Str), ([115, 117, 98, 115, 101, 116] : Str), ([112, 111, 119, 101, 114, 115, 101, 116] : Str), ([102, 108, 97, 116, 116, 101, 110] : Str), ([100, 111, 109, 97, 105, 110] : Str), ([117, 110, 99, 104, 97, 110, 103, 101, 100] : Str), ([101, 110, 97, 98, 108, 101, 100] : Str), ([97, 108, 119, 97, 121, 115] : Str), ([101, 118, 101, 110, 116, 117, 97, 108, 108, 121] : Str), ([117, 110, 116, 105, 108] : Str), ([108, 101, 97, 100, 115, 116, 111] : Str), ([99, 104, 111, 111, 115, 101] : Str), ([97, 108, 108] : Str), ([115, 111, 109, 101] : Str), ([101, 97, 99, 104] : Str), ([116, 104, 111, 115, 101] : Str), ([102, 117, 110] : Str), ([105, 102] : Str), ([116, 104, 101, 110] : Str), ([101, 108, 115, 101] : Str), ([108, 101, 116] : Str), ([110, 105, 108] : Str), ([116, 114, 117, 101] : Str), ([102, 97, 108, 115, 101] : Str), ([115, 105, 122, 101] : Str), ([108, 101, 110] : Str), ([104, 101, 97, 100] : Str), ([116, 97, 105, 108] : Str), ([97, 112, 112, 101, 110, 100] : Str), ([118, 97, 108, 117, 101, 115] : Str), ([115, 101, 113, 115] : Str)]) →
 (i_17 < (([([109, 111, 100, 117, 108, 101] : Str), ([99, 111, 110, 115, 116, 97, 110, 116] : Str), ([97, 116, 111, 109, 115] : Str), ([115, 121, 109, 109, 101, 116, 114, 105, 99] : Str), ([118, 97, 114, 105, 97, 98, 108, 101] : Str), ([100, 101, 102, 105, 110, 101] : Str), ([105, 110, 105, 116] : Str), ([97, 99, 116, 105, 111, 110] : Str), ([102, 97, 105, 114] : Str), ([119, 101, 97, 107] : Str), ([115, 116, 114, 111, 110, 103] : Str), ([105, 110, 118, 97, 114, 105, 97, 110, 116] : Str), ([112, 114, 111, 112, 101, 114, 116, 121] : Str), ([97, 110, 100] : Str), ([111, 114] : Str), ([110, 111, 116] : Str), ([105, 109, 112, 108, 105, 101, 115] : Str), ([105, 102, 102] : Str), ([105, 110] : Str), ([117, 110, 105, 111, 110] : Str), ([105, 110, 116, 101, 114] : Str), ([109, 105, 110, 117, 115] : Str), ([115, 117, 98, 115, 101, 116] : Str), ([112, 111, 119, 101, 114, 115, 101, 116] : Str), ([102, 108, 97, 116, 116, 101, 110] : Str), ([100, 111, 109, 97, 105, 110] : Str), ([117, 110, 99, 104, 97, 110, 103, 101, 100] : Str), ([101, 110, 97, 98, 108, 101, 100] : Str), ([97, 108, 119, 97, 121, 115] : Str), ([101, 118, 101, 110, 116, 117, 97, 108, 108, 121] : Str), ([117, 110, 116, 105, 108] : Str), ([108, 101, 97, 100, 115, 116, 111] : Str), ([99, 104, 111, 111, 115, 101] : Str), ([97, 108, 108] : Str), ([115, 111, 109, 101] : Str), ([101, 97, 99, 104] : Str), ([116, 104, 111, 115, 101] : Str), ([102, 117, 110] : Str), ([105, 102] : Str), ([116, 104, 101, 110] : Str), ([101, 108, 115, 101] : Str), ([108, 101, 116] : Str), ([110, 105, 108] : Str), ([116, 114, 117, 101] : Str), ([102, 97, 108, 115, 101] : Str), ([115, 105, 122, 101] : Str), ([108, 101, 110] : Str), ([104, 101, 97, 100] : Str), ([116, 97, 105, 108] : Str), ([97, 112, 112, 101, 110, 100] : Str), ([118, 97, 108, 117, 101, 115] : Str), ([115, 101, 113, 115] : Str)]).length : Int) →
 In i_17 ([([109, 111, 100, 117, 108, 101] : Str), ([99, 111, 110, 115, 116, 97, 110, 116] : Str), ([97, 116, 111, 109, 115] : Str), ([115, 121, 109, 109, 101, 116, 114, 105, 99] : Str), ([118, 97, 114, 105, 97, 98, 108, 101] : Str), ([100, 101, 102, 105, 110, 101] : Str), ([105, 110, 105, 116] : Str), ([97, 99, 116, 105, 111, 110] : Str), ([102, 97, 105, 114] : Str), ([119, 101, 97, 107] : Str), ([115, 116, 114, 111, 110, 103] : Str), ([105, 110, 118, 97, 114, 105, 97, 110, 116] : Str), ([112, 114, 111, 112, 101, 114, 116, 121] : Str), ([97, 110, 100] : Str), ([111, 114] : Str), ([110, 111, 116] : Str), ([105, 109, 112, 108, 105, 101, 115] : Str), ([105, 102, 102] : Str), ([105, 110] : Str), ([117, 110, 105, 111, 110] : Str), ([105, 110, 116, 101, 114] : Str), ([109, 105, 110, 117, 115] : Str), ([115, 117, 98, 115, 101, 116] : Str), ([112, 111, 119, 101, 114, 115, 101, 116] : Str), ([102, 108, 97, 116, 116, 101, 110] : Str), ([100, 111, 109, 97, 105, 110] : Str), ([117, 110, 99, 104, 97, 110, 103, 101, 100] : Str), ([101, 110, 97, 98, 108, 101, 100] : Str), ([97, 108, 119, 97, 121, 115] : Str), ([101, 118, 101, 110, 116, 117, 97, 108, 108, 121] : Str), ([117, 110, 116, 105, 108] : Str), ([108, 101, 97, 100, 115, 116, 111] : Str), ([99, 104, 111, 111, 115, 101] : Str), ([97, 108, 108] : Str), ([115, 111, 109, 101] : Str), ([101, 97, 99, 104] : Str), ([116, 104, 111, 115, 101] : Str), ([102, 117, 110] : Str), ([105, 102] : Str), ([116, 104, 101, 110] : Str), ([101, 108, 115, 101] : Str), ([108, 101, 116] : Str), ([110, 105, 108] : Str), ([116, 114, 117, 101] : Str), ([102, 97, 108, 115, 101] : Str), ([115, 105, 122, 101] : Str), ([108, 101, 110] : Str), ([104, 101, 97, 100] : Str), ([116, 97, 105, 108] : Str), ([97, 112, 112, 101, 110, 100] : Str), ([118, 97, 108, 117, 101, 115] : Str), ([115, 101, 113, 115] : Str)]) ∧
 ((ix ([([109, 111, 100, 117, 108, 101] : Str), ([99, 111, 110, 115, 116, 97, 110, 116] : Str), ([97, 116, 111, 109, 115] : Str), ([115, 121, 109, 109, 101, 116, 114, 105, 99] : Str), ([118, 97, 114, 105, 97, 98, 108, 101] : Str), ([100, 101, 102, 105, 110, 101] : Str), ([105, 110, 105, 116] : Str), ([97, 99, 116, 105, 111, 110] : Str), ([102, 97, 105, 114] : Str), ([119, 101, 97, 107] : Str), ([115, 116, 114, 111, 110, 103] : Str), ([105, 110, 118, 97, 114, 105, 97, 110, 116] : Str), ([112, 114, 111, 112, 101, 114, 116, 121] : Str), ([97, 110, 100] : Str), ([111, 114] : Str), ([110, 111, 116] : Str), ([105, 109, 112, 108, 105, 101, 115] : Str), ([105, 102, 102] : Str), ([105, 110] : Str), ([117, 110, 105, 111, 110] : Str), ([105, 110, 116, 101, 114] : Str), ([109, 105, 110, 117, 115] : Str), ([115, 117, 98, 115, 101, 116] : Str), ([112, 111, 119, 101, 114, 115, 101, 116] : Str), ([102, 108, 97, 116, 116, 101, 110] : Str), ([100, 111, 109, 97, 105, 110] : Str), ([117, 110, 99, 104, 97, 110, 103, 101, 100] : Str), ([101, 110, 97, 98, 108, 101, 100] : Str), ([97, 108, 119, 97, 121, 115] : Str), ([101, 118, 101, 110, 116, 117, 97, 108, 108, 121] : Str), ([117, 110, 116, 105, 108] : Str), ([108, 101, 97, 100, 115, 116, 111] : Str), ([99, 104, 111, 111, 115, 101] : Str), ([97, 108, 108] : Str), ([115, 111, 109, 101] : Str), ([101, 97, 99, 104] : Str), ([116, 104, 111, 115, 101] : Str), ([102, 117, 110] : Str), ([105, 102] : Str), ([116, 104, 101, 110] : Str), ([101, 108, 115, 101] : Str), ([108, 101, 116] : Str), ([110, 105, 108] : Str), ([116, 114, 117, 101] : Str), ([102, 97, 108, 115, 101] : Str), ([115, 105, 122, 101] : Str), ([108, 101, 110] : Str), ([104, 101, 97, 100] : Str), ([116, 97, 105, 108] : Str), ([97, 112, 112, 101, 110, 100] : Str), ([118, 97, 108, 117, 101, 115] : Str), ([115, 101, 113, 115] : Str)]) i_17) = s_1 →
 Q true) ∧
 (¬ ((ix ([([109, 111, 100, 117, 108, 101] : Str), ([99, 111, 110, 115, 116, 97, 110, 116] : Str), ([97, 116, 111, 109, 115] : Str), ([115, 121, 109, 109, 101, 116, 114, 105, 99] : Str), ([118, 97, 114, 105, 97, 98, 108, 101] : Str), ([100, 101, 102, 105, 110, 101] : Str), ([105, 110, 105, 116] : Str), ([97, 99, 116, 105, 111, 110] : Str), ([102, 97, 105, 114] : Str), ([119, 101, 97, 107] : Str), ([115, 116, 114, 111, 110, 103] : Str), ([105, 110, 118, 97, 114, 105, 97, 110, 116] : Str), ([112, 114, 111, 112, 101, 114, 116, 121] : Str), ([97, 110, 100] : Str), ([111, 114] : Str), ([110, 111, 116] : Str), ([105, 109, 112, 108, 105, 101, 115] : Str), ([105, 102, 102] : Str), ([105, 110] : Str), ([117, 110, 105, 111, 110] : Str), ([105, 110, 116, 101, 114] : Str), ([109, 105, 110, 117, 115] : Str), ([115, 117, 98, 115, 101, 116] : Str), ([112, 111, 119, 101, 114, 115, 101, 116] : Str), ([102, 108, 97, 116, 116, 101, 110] : Str), ([100, 111, 109, 97, 105, 110] : Str), ([117, 110, 99, 104, 97, 110, 103, 101, 100] : Str), ([101, 110, 97, 98, 108, 101, 100] : Str), ([97, 108, 119, 97, 121, 115] : Str), ([101, 118, 101, 110, 116, 117, 97, 108, 108, 121] : Str), ([117, 110, 116, 105, 108] : Str), ([108, 101, 97, 100, 115, 116, 111] : Str), ([99, 104, 111, 111, 115, 101] : Str), ([97, 108, 108] : Str), ([115, 111, 109, 101] : Str), ([101, 97, 99, 104] : Str), ([116, 104, 111, 115, 101] : Str), ([102, 117, 110] : Str), ([105, 102] : Str), ([116, 104, 101, 110] : Str), ([101, 108, 115, 101] : Str), ([108, 101, 116] : Str), ([110, 105, 108] : Str), ([116, 114, 117, 101] : Str), ([102, 97, 108, 115, 101] : Str), ([115, 105, 122, 101] : Str), ([108, 101, 110] : Str), ([104, 101, 97, 100] : Str), ([116, 97, 105, 108] : Str), ([97, 112, 112, 101, 110, 100] : Str), ([118, 97, 108, 117, 101, 115] : Str), ([115, 101, 113, 115] : Str)]) i_17) = s_1) →
 I64 (i_17 + (1 : Int)) ∧
 xnext_32 (i_17 + (1 : Int)))) ∧
 (¬ (i_17 < (([([109, 111, 100, 117, 108, 101] : Str), ([99, 111, 110, 115, 116, 97, 110, 116] : Str), ([97, 116, 111, 109, 115] : Str), ([115, 121, 109, 109, 101, 116, 114, 105, 99] : Str), ([118, 97, 114, 105, 97, 98, 108, 101] : Str), ([100, 101, 102, 105, 110, 101] : Str), ([105, 110, 105, 116] : Str), ([97, 99, 116, 105, 111, 110] : Str), ([102, 97, 105, 114] : Str), ([119, 101, 97, 107] : Str), ([115, 116, 114, 111, 110, 103] : Str), ([105, 110, 118, 97, 114, 105, 97, 110, 116] : Str), ([112, 114, 111, 112, 101, 114, 116, 121] : Str), ([97, 110, 100] : Str), ([111, 114] : Str), ([110, 111, 116] : Str), ([105, 109, 112, 108, 105, 101, 115] : Str), ([105, 102, 102] : Str), ([105, 110] : Str), ([117, 110, 105, 111, 110] : Str), ([105, 110, 116, 101, 114] : Str), ([109, 105, 110, 117, 115] : Str), ([115, 117, 98, 115, 101, 116] : Str), ([112, 111, 119, 101, 114, 115, 101, 116] : Str), ([102, 108, 97, 116, 116, 101, 110] : Str), ([100, 111, 109, 97, 105, 110] : Str), ([117, 110, 99, 104, 97, 110, 103, 101, 100] : Str), ([101, 110, 97, 98, 108, 101, 100] : Str), ([97, 108, 119, 97, 121, 115] : Str), ([101, 118, 101, 110, 116, 117, 97, 108, 108, 121] : Str), ([117, 110, 116, 105, 108] : Str), ([108, 101, 97, 100, 115, 116, 111] : Str), ([99, 104, 111, 111, 115, 101] : Str), ([97, 108, 108] : Str), ([115, 111, 109, 101] : Str), ([101, 97, 99, 104] : Str), ([116, 104, 111, 115, 101] : Str), ([102, 117, 110] : Str), ([105, 102] : Str), ([116, 104, 101, 110] : Str), ([101, 108, 115, 101] : Str), ([108, 101, 116] : Str), ([110, 105, 108] : Str), ([116, 114, 117, 101] : Str), ([102, 97, 108, 115, 101] : Str), ([115, 105, 122, 101] : Str), ([108, 101, 110] : Str), ([104, 101, 97, 100] : Str), ([116, 97, 105, 108] : Str), ([97, 112, 112, 101, 110, 100] : Str), ([118, 97, 108, 117, 101, 115] : Str), ([115, 101, 113, 115] : Str)]).length : Int)) →
 Q false))
def V_rLetter (c_1 : Int) (Q : Bool → Prop) : Prop :=
 Q (decide ((((97 : Int) ≤ c_1) ∧ (c_1 ≤ (122 : Int))) ∨ (((65 : Int) ≤ c_1) ∧ (c_1 ≤ (90 : Int)))))
def V_rDigit (c_1 : Int) (Q : Bool → Prop) : Prop :=
 Q (decide (((48 : Int) ≤ c_1) ∧ (c_1 ≤ (57 : Int))))
def V_rInner (c_1 : Int) (Q : Bool → Prop) : Prop :=
 V_rLetter c_1 fun r_3 =>
 V_rDigit c_1 fun r_5 =>
 Q (decide (((r_3 = true) ∨ (r_5 = true)) ∨ (c_1 = (95 : Int))))
def V_rRun (s_1 : Str) (i_2 : Int) (Q : Int → Prop) : Prop :=
 VMeet (σ := Int) (fun i_37 =>
 Q i_37) fun J_39 =>
 VLoop (σ := Int) i_2 fun i_50 xnext_63 =>
 Len s_1 ∧
 (i_50 < (s_1.length : Int) →
 In i_50 s_1 ∧
 V_rInner (byte s_1 i_50) fun r_67 =>
 ((!r_67) = true →
 J_39 i_50) ∧
 ((!r_67) = false →
 I64 (i_50 + (1 : Int)) ∧
 xnext_63 (i_50 + (1 : Int)))) ∧
 (¬ (i_50 < (s_1.length : Int)) →
 J_39 i_50)
def V_rQuoted (s_1 : Str) (i_2 : Int) (Q : Int → Prop) : Prop :=
 I64 (i_2 + (1 : Int)) ∧
 VLoop (σ := Int) (i_2 + (1 : Int)) fun k_29 xnext_56 =>
 Len s_1 ∧
 (k_29 < (s_1.length : Int) →
 In k_29 s_1 ∧
 ((byte s_1 k_29) = (34 : Int) →
 I64 (k_29 + (1 : Int)) ∧
 Q (k_29 + (1 : Int))) ∧
 (¬ ((byte s_1 k_29) = (34 : Int)) →
 VMeet (σ := Bool) (fun x_67 =>
 (x_67 = true →
 Q (-1)) ∧
 (x_67 = false →
 I64 (k_29 + (1 : Int)) ∧
 xnext_56 (k_29 + (1 : Int)))) fun J_68 =>
 In k_29 s_1 ∧
 ((byte s_1 k_29) < (32 : Int) →
 J_68 true) ∧
 (¬ ((byte s_1 k_29) < (32 : Int)) →
 In k_29 s_1 ∧
 ((126 : Int) < (byte s_1 k_29) →
 J_68 true) ∧
 (¬ ((126 : Int) < (byte s_1 k_29)) →
 In k_29 s_1 ∧
 J_68 (decide ((byte s_1 k_29) = (92 : Int))))))) ∧
 (¬ (k_29 < (s_1.length : Int)) →
 Q (-1))
def V_rSize (s_1 : Str) (Q : Int → Bool → Prop) : Prop :=
 VLoop (σ := Int × Int) ((0 : Int), (0 : Int)) fun (n_10, i_12) xnext_24 =>
 Len s_1 ∧
 (i_12 < (s_1.length : Int) →
 In i_12 s_1 ∧
 ((0 : Int) < (10 : Int)) ∧
 (((IntKind.u64.wrap ((9223372036854775808 : Int) - (IntKind.u64.wrap (IntKind.u8.wrap ((byte s_1 i_12) - (48 : Int)))))).tdiv (10 : Int)) < n_10 →
 Q (0 : Int) false) ∧
 (¬ (((IntKind.u64.wrap ((9223372036854775808 : Int) - (IntKind.u64.wrap (IntKind.u8.wrap ((byte s_1 i_12) - (48 : Int)))))).tdiv (10 : Int)) < n_10) →
 I64 (i_12 + (1 : Int)) ∧
 xnext_24 ((IntKind.u64.wrap ((IntKind.u64.wrap (n_10 * (10 : Int))) + (IntKind.u64.wrap (IntKind.u8.wrap ((byte s_1 i_12) - (48 : Int)))))), (i_12 + (1 : Int))))) ∧
 (¬ (i_12 < (s_1.length : Int)) →
 Q n_10 true)
def V_rfail (s_4 : Str) (xat_5 : Int) (deep_7 : Int) (e_9 : Int) (bad_11 : Int) (heavy_13 : Bool) (e_14 : Int) (xat_16 : Int) (Q : Int → Int → Prop) : Prop :=
 (e_9 = (0 : Int) →
 Q e_14 xat_16) ∧
 (¬ (e_9 = (0 : Int)) →
 Q e_9 bad_11)
def V_rskip (s_4 : Str) (xat_5 : Int) (deep_7 : Int) (e_9 : Int) (bad_11 : Int) (heavy_13 : Bool) (Q : Int → Prop) : Prop :=
 VLoop (σ := Int) xat_5 fun c_36 xnext_62 =>
 VMeet (σ := Bool) (fun x_71 =>
 (x_71 = true →
 I64 (c_36 + (1 : Int)) ∧
 xnext_62 (c_36 + (1 : Int))) ∧
 (x_71 = false →
 Q c_36)) fun J_72 =>
 Len s_4 ∧
 (c_36 < (s_4.length : Int) →
 In c_36 s_4 ∧
 ((byte s_4 c_36) = (32 : Int) →
 J_72 true) ∧
 (¬ ((byte s_4 c_36) = (32 : Int)) →
 In c_36 s_4 ∧
 ((byte s_4 c_36) = (9 : Int) →
 J_72 true) ∧
 (¬ ((byte s_4 c_36) = (9 : Int)) →
 In c_36 s_4 ∧
 J_72 (decide ((byte s_4 c_36) = (10 : Int)))))) ∧
 (¬ (c_36 < (s_4.length : Int)) →
 J_72 false)
def V_rsign (s_4 : Str) (xat_5 : Int) (deep_7 : Int) (e_9 : Int) (bad_11 : Int) (heavy_13 : Bool) (t_14 : Str) (Q : Bool → Int → Prop) : Prop :=
 V_rskip s_4 xat_5 deep_7 e_9 bad_11 heavy_13 fun r_15 =>
 VMeet (σ := Bool) (fun x_30 =>
 (x_30 = true →
 Q false r_15) ∧
 (x_30 = false →
 Len t_14 ∧
 I64 (r_15 + (t_14.length : Int)) ∧
 Q true (r_15 + (t_14.length : Int)))) fun J_31 =>
 (e_9 ≠ (0 : Int) →
 J_31 true) ∧
 (¬ (e_9 ≠ (0 : Int)) →
 Len s_4 ∧
 I64 ((s_4.length : Int) - r_15) ∧
 Len t_14 ∧
 (((s_4.length : Int) - r_15) < (t_14.length : Int) →
 J_31 true) ∧
 (¬ (((s_4.length : Int) - r_15) < (t_14.length : Int)) →
 Len t_14 ∧
 I64 (r_15 + (t_14.length : Int)) ∧
 ((0 : Int) ≤ r_15 ∧ r_15 ≤ (r_15 + (t_14.length : Int)) ∧ (r_15 + (t_14.length : Int)) ≤ (s_4.length : Int)) ∧
 J_31 (decide (((s_4.take (r_15 + (t_14.length : Int)).toNat).drop r_15.toNat) ≠ t_14))))
def V_rwant (s_4 : Str) (xat_5 : Int) (deep_7 : Int) (e_9 : Int) (bad_11 : Int) (heavy_13 : Bool) (t_14 : Str) (Q : Int → Int → Int → Prop) : Prop :=
 V_rsign s_4 xat_5 deep_7 e_9 bad_11 heavy_13 t_14 fun r_15 r_16 =>
 ((!r_15) = true →
 V_rfail s_4 r_16 deep_7 e_9 bad_11 heavy_13 (1 : Int) r_16 fun r_19 r_21 =>
 Q r_16 r_19 r_21) ∧
 ((!r_15) = false →
 Q r_16 e_9 bad_11)
def V_rlight (s_4 : Str) (xat_5 : Int) (deep_7 : Int) (e_9 : Int) (bad_11 : Int) (heavy_13 : Bool) (v_14 : RV) (Q : RV → Bool → Prop) : Prop :=
 VMeet (σ := Bool) (fun c_29 =>
 Q v_14 c_29) fun J_30 =>
 (v_14.k = (0 : Int) →
 J_30 true) ∧
 (¬ (v_14.k = (0 : Int)) →
 J_30 heavy_13)
def V_rnumber (s_4 : Str) (xat_5 : Int) (deep_7 : Int) (e_9 : Int) (bad_11 : Int) (heavy_13 : Bool) (w_14 : Str) (minus_15 : Bool) (i_16 : Int) (xend_18 : Int) (Q : RV → Int → Int → Int → Prop) : Prop :=
 VMeet (σ := Bool) (fun ok_29 =>
 VLoop (σ := Bool × Int) (ok_29, (0 : Int)) fun (ok_46, k_47) xnext_60 =>
 Len w_14 ∧
 (k_47 < (w_14.length : Int) →
 In k_47 w_14 ∧
 V_rDigit (byte w_14 k_47) fun r_64 =>
 I64 (k_47 + (1 : Int)) ∧
 xnext_60 (decide ((ok_46 = true) ∧ (r_64 = true)), (k_47 + (1 : Int)))) ∧
 (¬ (k_47 < (w_14.length : Int)) →
 ((!ok_46) = true →
 V_rfail s_4 xat_5 deep_7 e_9 bad_11 heavy_13 (1 : Int) i_16 fun r_69 r_71 =>
 Q (RV.mk 0 0 ([] : Str) ([] : List RV) ([] : List RV)) xat_5 r_69 r_71) ∧
 ((!ok_46) = false →
 V_rSize w_14 fun r_77 r_79 =>
 (((!r_79) = true) ∨ ((r_77 = (9223372036854775808 : Int)) ∧ ((!minus_15) = true)) →
 V_rfail s_4 xat_5 deep_7 e_9 bad_11 heavy_13 (5 : Int) i_16 fun r_83 r_85 =>
 Q (RV.mk 0 0 ([] : Str) ([] : List RV) ([] : List RV)) xat_5 r_83 r_85) ∧
 (¬ (((!r_79) = true) ∨ ((r_77 = (9223372036854775808 : Int)) ∧ ((!minus_15) = true))) →
 VMeet (σ := Int) (fun n_92 =>
 V_rNumber (IntKind.i64.wrap n_92) fun r_97 =>
 Q r_97 xend_18 e_9 bad_11) fun J_94 =>
 (minus_15 = true →
 J_94 (IntKind.u64.wrap (-r_77))) ∧
 (minus_15 = false →
 J_94 r_77))))) fun J_30 =>
 In (0 : Int) w_14 ∧
 ((byte w_14 (0 : Int)) ≠ (48 : Int) →
 J_30 true) ∧
 (¬ ((byte w_14 (0 : Int)) ≠ (48 : Int)) →
 Len w_14 ∧
 ((w_14.length : Int) = (1 : Int) →
 J_30 (!minus_15)) ∧
 (¬ ((w_14.length : Int) = (1 : Int)) →
 J_30 false))
def V_rsingle (s_4 : Str) (xat_5 : Int) (deep_7 : Int) (e_9 : Int) (bad_11 : Int) (heavy_13 : Bool) (Q : RV → Int → Int → Int → Prop) : Prop :=
 Len s_4 ∧
 (xat_5 = (s_4.length : Int) →
 V_rfail s_4 xat_5 deep_7 e_9 bad_11 heavy_13 (1 : Int) xat_5 fun r_20 r_22 =>
 Q (RV.mk 0 0 ([] : Str) ([] : List RV) ([] : List RV)) xat_5 r_20 r_22) ∧
 (¬ (xat_5 = (s_4.length : Int)) →
 In xat_5 s_4 ∧
 ((byte s_4 xat_5) = (34 : Int) →
 V_rQuoted s_4 xat_5 fun r_29 =>
 (r_29 < (0 : Int) →
 V_rfail s_4 xat_5 deep_7 e_9 bad_11 heavy_13 (1 : Int) xat_5 fun r_33 r_35 =>
 Q (RV.mk 0 0 ([] : Str) ([] : List RV) ([] : List RV)) xat_5 r_33 r_35) ∧
 (¬ (r_29 < (0 : Int)) →
 I64 (xat_5 + (1 : Int)) ∧
 I64 (r_29 - (1 : Int)) ∧
 ((0 : Int) ≤ (xat_5 + (1 : Int)) ∧ (xat_5 + (1 : Int)) ≤ (r_29 - (1 : Int)) ∧ (r_29 - (1 : Int)) ≤ (s_4.length : Int)) ∧
 Q (RV.mk (3 : Int) 0 ((s_4.take (r_29 - (1 : Int)).toNat).drop (xat_5 + (1 : Int)).toNat) ([] : List RV) ([] : List RV)) r_29 e_9 bad_11)) ∧
 (¬ ((byte s_4 xat_5) = (34 : Int)) →
 VMeet (σ := Int) (fun xfrom_54 =>
 V_rRun s_4 xfrom_54 fun r_62 =>
 ((0 : Int) ≤ xfrom_54 ∧ xfrom_54 ≤ r_62 ∧ r_62 ≤ (s_4.length : Int)) ∧
 (((s_4.take r_62.toNat).drop xfrom_54.toNat) = ([] : Str) →
 V_rfail s_4 xat_5 deep_7 e_9 bad_11 heavy_13 (1 : Int) xat_5 fun r_66 r_68 =>
 Q (RV.mk 0 0 ([] : Str) ([] : List RV) ([] : List RV)) xat_5 r_66 r_68) ∧
 (¬ (((s_4.take r_62.toNat).drop xfrom_54.toNat) = ([] : Str)) →
 In (0 : Int) ((s_4.take r_62.toNat).drop xfrom_54.toNat) ∧
 V_rDigit (byte ((s_4.take r_62.toNat).drop xfrom_54.toNat) (0 : Int)) fun r_75 =>
 (r_75 = true →
 V_rnumber s_4 xat_5 deep_7 e_9 bad_11 heavy_13 ((s_4.take r_62.toNat).drop xfrom_54.toNat) (decide (xat_5 < xfrom_54)) xat_5 r_62 fun r_78 r_85 r_87 r_89 =>
 Q r_78 r_85 r_87 r_89) ∧
 (r_75 = false →
 In (0 : Int) ((s_4.take r_62.toNat).drop xfrom_54.toNat) ∧
 V_rLetter (byte ((s_4.take r_62.toNat).drop xfrom_54.toNat) (0 : Int)) fun r_95 =>
 ((xat_5 < xfrom_54) ∨ ((!r_95) = true) →
 V_rfail s_4 xat_5 deep_7 e_9 bad_11 heavy_13 (1 : Int) xat_5 fun r_100 r_102 =>
 Q (RV.mk 0 0 ([] : Str) ([] : List RV) ([] : List RV)) xat_5 r_100 r_102) ∧
 (¬ ((xat_5 < xfrom_54) ∨ ((!r_95) = true)) →
 (((s_4.take r_62.toNat).drop xfrom_54.toNat) = ([110, 105, 108] : Str) →
 Q (RV.mk 0 0 ([] : Str) ([] : List RV) ([] : List RV)) r_62 e_9 bad_11) ∧
 (¬ (((s_4.take r_62.toNat).drop xfrom_54.toNat) = ([110, 105, 108] : Str)) →
 (((s_4.take r_62.toNat).drop xfrom_54.toNat) = ([116, 114, 117, 101] : Str) →
 V_rTruth true fun r_111 =>
 Q r_111 r_62 e_9 bad_11) ∧
 (¬ (((s_4.take r_62.toNat).drop xfrom_54.toNat) = ([116, 114, 117, 101] : Str)) →
 (((s_4.take r_62.toNat).drop xfrom_54.toNat) = ([102, 97, 108, 115, 101] : Str) →
 V_rTruth false fun r_121 =>
 Q r_121 r_62 e_9 bad_11) ∧
 (¬ (((s_4.take r_62.toNat).drop xfrom_54.toNat) = ([102, 97, 108, 115, 101] : Str)) →
 V_rReserved ((s_4.take r_62.toNat).drop xfrom_54.toNat) fun r_131 =>
 VMeet (σ := Int × Int) (fun (c_139, c_141) =>
 VMeet (σ := Int × Int) (fun (c_159, c_161) =>
 Q (RV.mk (4 : Int) 0 ((s_4.take r_62.toNat).drop xfrom_54.toNat) ([] : List RV) ([] : List RV)) r_62 c_159 c_161) fun J_163 =>
 Len ((s_4.take r_62.toNat).drop xfrom_54.toNat) ∧
 ((16 : Int) < (((s_4.take r_62.toNat).drop xfrom_54.toNat).length : Int) →
 V_rfail s_4 r_62 deep_7 c_139 c_141 heavy_13 (5 : Int) xat_5 fun r_167 r_169 =>
 J_163 (r_167, r_169)) ∧
 (¬ ((16 : Int) < (((s_4.take r_62.toNat).drop xfrom_54.toNat).length : Int)) →
 J_163 (c_139, c_141))) fun J_143 =>
 (r_131 = true →
 V_rfail s_4 r_62 deep_7 e_9 bad_11 heavy_13 (1 : Int) xat_5 fun r_145 r_147 =>
 J_143 (r_145, r_147)) ∧
 (r_131 = false →
 J_143 (e_9, bad_11))))))))) fun J_56 =>
 In xat_5 s_4 ∧
 ((byte s_4 xat_5) = (45 : Int) →
 I64 (xat_5 + (1 : Int)) ∧
 J_56 (xat_5 + (1 : Int))) ∧
 (¬ ((byte s_4 xat_5) = (45 : Int)) →
 J_56 xat_5)))
def V_rvalues (G : Str → Int → Int → Int → Int → Bool → (RV → Int → Int → Int → Int → Bool → Prop) → Prop) (s_4 : Str) (xat_5 : Int) (deep_7 : Int) (e_9 : Int) (bad_11 : Int) (heavy_13 : Bool) (last_14 : Str) (least_15 : Int) (pairs_17 : Bool) (Q : (List RV) → (List RV) → Int → Int → Int → Int → Bool → Prop) : Prop :=
 I64 (deep_7 + (1 : Int)) ∧
 VMeet (σ := Int × Int) (fun (c_34, c_36) =>
 VMeet (σ := Int × Bool) (fun (c_56, xend_58) =>
 VLoop (σ := Int × Int × Int × Int × Bool × (List RV) × (List RV) × Bool) (c_56, (deep_7 + (1 : Int)), c_34, c_36, heavy_13, ([] : List RV), ([] : List RV), xend_58) fun (c_365, c_367, c_369, c_371, c_373, keys_375, vals_380, xend_384) xnext_534 =>
 VMeet (σ := Bool) (fun x_537 =>
 (x_537 = true →
 G s_4 c_365 c_367 c_369 c_371 c_373 fun r_542 r_549 r_551 r_553 r_555 r_557 =>
 Room (keys_375.length + ([r_542]).length) 80 ∧
 VMeet (σ := Int × Int × Int × Int × Bool × (List RV)) (fun (c_614, c_616, c_618, c_620, c_622, vals_624) =>
 V_rsign s_4 c_614 c_616 c_618 c_620 c_622 ([44] : Str) fun r_669 r_670 =>
 ((!r_669) = true →
 V_rwant s_4 r_670 c_616 c_618 c_620 c_622 last_14 fun r_673 r_675 r_677 =>
 xnext_534 (r_673, c_616, r_675, r_677, c_622, (keys_375 ++ ([r_542])), vals_624, true)) ∧
 ((!r_669) = false →
 xnext_534 (r_670, c_616, c_618, c_620, c_622, (keys_375 ++ ([r_542])), vals_624, xend_384))) fun J_628 =>
 (pairs_17 = true →
 V_rwant s_4 r_549 r_551 r_553 r_555 r_557 ([58] : Str) fun r_630 r_632 r_634 =>
 G s_4 r_630 r_551 r_632 r_634 r_557 fun r_637 r_644 r_646 r_648 r_650 r_652 =>
 Room (vals_380.length + ([r_637]).length) 80 ∧
 J_628 (r_644, r_646, r_648, r_650, r_652, (vals_380 ++ ([r_637])))) ∧
 (pairs_17 = false →
 J_628 (r_549, r_551, r_553, r_555, r_557, vals_380))) ∧
 (x_537 = false →
 I64 (c_367 - (1 : Int)) ∧
 Q keys_375 vals_380 c_365 (c_367 - (1 : Int)) c_369 c_371 c_373)) fun J_538 =>
 (c_369 = (0 : Int) →
 J_538 (!xend_384)) ∧
 (¬ (c_369 = (0 : Int)) →
 J_538 false)) fun J_59 =>
 (least_15 = (0 : Int) →
 V_rsign s_4 xat_5 (deep_7 + (1 : Int)) c_34 c_36 heavy_13 last_14 fun r_62 r_63 =>
 J_59 (r_63, r_62)) ∧
 (¬ (least_15 = (0 : Int)) →
 J_59 (xat_5, false))) fun J_38 =>
 ((24 : Int) < (deep_7 + (1 : Int)) →
 Len last_14 ∧
 I64 (xat_5 - (last_14.length : Int)) ∧
 V_rfail s_4 xat_5 (deep_7 + (1 : Int)) e_9 bad_11 heavy_13 (6 : Int) (xat_5 - (last_14.length : Int)) fun r_44 r_46 =>
 J_38 (r_44, r_46)) ∧
 (¬ ((24 : Int) < (deep_7 + (1 : Int))) →
 J_38 (e_9, bad_11))
def V_rvalue : Nat → Str → Int → Int → Int → Int → Bool → (RV → Int → Int → Int → Int → Bool → Prop) → Prop
 | 0, _, _, _, _, _, _, _ => False
 | m0 + 1, s_4, xat_5, deep_7, e_9, bad_11, heavy_13, Q =>
 V_rskip s_4 xat_5 deep_7 e_9 bad_11 heavy_13 fun r_18 =>
 (e_9 ≠ (0 : Int) →
 Q (RV.mk 0 0 ([] : Str) ([] : List RV) ([] : List RV)) r_18 deep_7 e_9 bad_11 heavy_13) ∧
 (¬ (e_9 ≠ (0 : Int)) →
 V_rsign s_4 r_18 deep_7 e_9 bad_11 heavy_13 ([123] : Str) fun r_25 r_26 =>
 (r_25 = true →
 V_rvalues (V_rvalue m0) s_4 r_26 deep_7 e_9 bad_11 heavy_13 ([125] : Str) (0 : Int) false fun r_29 r_34 r_39 r_41 r_43 r_45 r_47 =>
 V_rSetOf r_29 fun r_53 =>
 V_rlight s_4 r_39 r_41 r_43 r_45 r_47 r_53 fun r_66 r_73 =>
 Q r_66 r_39 r_41 r_43 r_45 r_73) ∧
 (r_25 = false →
 V_rsign s_4 r_26 deep_7 e_9 bad_11 heavy_13 ([60, 60] : Str) fun r_77 r_78 =>
 (r_77 = true →
 V_rvalues (V_rvalue m0) s_4 r_78 deep_7 e_9 bad_11 heavy_13 ([62, 62] : Str) (0 : Int) false fun r_81 r_86 r_91 r_93 r_95 r_97 r_99 =>
 V_rSeqOf r_81 fun r_105 =>
 V_rlight s_4 r_91 r_93 r_95 r_97 r_99 r_105 fun r_118 r_125 =>
 Q r_118 r_91 r_93 r_95 r_97 r_125) ∧
 (r_77 = false →
 V_rsign s_4 r_78 deep_7 e_9 bad_11 heavy_13 ([91] : Str) fun r_129 r_130 =>
 (r_129 = true →
 V_rvalues (V_rvalue m0) s_4 r_130 deep_7 e_9 bad_11 heavy_13 ([93] : Str) (1 : Int) true fun r_133 r_138 r_143 r_145 r_147 r_149 r_151 =>
 (r_147 ≠ (0 : Int) →
 Q (RV.mk 0 0 ([] : Str) ([] : List RV) ([] : List RV)) r_143 r_145 r_147 r_149 r_151) ∧
 (¬ (r_147 ≠ (0 : Int)) →
 V_rFunOf r_133 r_138 fun r_164 =>
 V_rlight s_4 r_143 r_145 r_147 r_149 r_151 r_164 fun r_177 r_184 =>
 Q r_177 r_143 r_145 r_147 r_149 r_184)) ∧
 (r_129 = false →
 V_rsingle s_4 r_130 deep_7 e_9 bad_11 heavy_13 fun r_189 r_196 r_198 r_200 =>
 Q r_189 r_196 deep_7 r_198 r_200 heavy_13))))
def V_rRead (s_1 : Str) (Q : RV → Int → Int → Prop) : Prop :=
 Len s_1 ∧
 ((4000 : Int) < (s_1.length : Int) →
 Q (RV.mk 0 0 ([] : Str) ([] : List RV) ([] : List RV)) (0 : Int) (6 : Int)) ∧
 (¬ ((4000 : Int) < (s_1.length : Int)) →
 ∃ mf, V_rvalue mf s_1 0 0 0 0 false fun r_13 r_20 r_22 r_24 r_26 r_28 =>
 V_rskip s_1 r_20 r_22 r_24 r_26 r_28 fun r_35 =>
 VMeet (σ := Int × Int) (fun (c_55, c_57) =>
 VMeet (σ := Int × Int) (fun (c_91, c_93) =>
 (c_91 ≠ (0 : Int) →
 Q (RV.mk 0 0 ([] : Str) ([] : List RV) ([] : List RV)) c_93 c_91) ∧
 (¬ (c_91 ≠ (0 : Int)) →
 Q r_13 (0 : Int) (0 : Int))) fun J_95 =>
 VMeet (σ := Bool) (fun x_99 =>
 (x_99 = true →
 V_rfail s_1 r_35 r_22 c_55 c_57 r_28 (6 : Int) (0 : Int) fun r_104 r_106 =>
 J_95 (r_104, r_106)) ∧
 (x_99 = false →
 J_95 (c_55, c_57))) fun J_100 =>
 (c_55 = (0 : Int) →
 J_100 r_28) ∧
 (¬ (c_55 = (0 : Int)) →
 J_100 false)) fun J_59 =>
 VMeet (σ := Bool) (fun x_65 =>
 (x_65 = true →
 V_rfail s_1 r_35 r_22 r_24 r_26 r_28 (1 : Int) r_35 fun r_72 r_74 =>
 J_59 (r_72, r_74)) ∧
 (x_65 = false →
 J_59 (r_24, r_26))) fun J_66 =>
 (r_24 = (0 : Int) →
 Len s_1 ∧
 J_66 (decide (r_35 < (s_1.length : Int)))) ∧
 (¬ (r_24 = (0 : Int)) →
 J_66 false))
def V_Read (text : Str) (Q : Val → Int → Option Int → Prop) : Prop := Len text ∧
 (4000 < (text.length : Int) → Q .nil 0 (some 6)) ∧ (¬ 4000 < (text.length : Int) → ∃ m, V_value m text 0 0 false (fun e a => I64 a ∧ Q .nil a (some e)) fun v at_ deep heavy =>
 V_skip text at_ deep heavy fun at' => (at' < (text.length : Int) → Q .nil at' (some 1)) ∧ (¬ at' < (text.length : Int) → (heavy = true → Q .nil 0 (some 6)) ∧ (heavy = false → Q v 0 none)))
def V_Told (err_1 : Option Int) (Q : Int → Prop) : Prop :=
 (err_1 = none →
 Q (0 : Int)) ∧
 (¬ (err_1 = none) →
 V_As err_1 0 fun r_4 r_5 =>
 (r_4 = true →
 Q r_5) ∧
 (r_4 = false →
 Q (-1)))
def V_Error (err_1 : Option Int) (e_2 : Int) (Q : Bool → Prop) : Prop :=
 V_Told err_1 fun r_4 =>
 Q (decide (r_4 = e_2))
def V_ValueReads (text_1 : Str) (Q : Bool → Prop) : Prop :=
 V_Read text_1 fun r_2 r_5 r_7 =>
 V_rRead text_1 fun r_12 r_19 r_21 =>
 V_Error r_7 r_21 fun r_29 =>
 (((!r_29) = true) ∨ (r_5 ≠ r_19) →
 Q false) ∧
 (¬ (((!r_29) = true) ∨ (r_5 ≠ r_19)) →
 V_Show r_2 fun r_34 =>
 ∃ mf, V_rShow mf r_12 fun r_36 =>
 V_Weight r_2 fun r_38 =>
 ∃ mf, V_rWeight mf r_12 fun r_41 =>
 VMeet (σ := Bool) (fun x_46 =>
 Q x_46) fun J_47 =>
 (r_34 = r_36 →
 J_47 (decide (r_38 = r_41))) ∧
 (¬ (r_34 = r_36) →
 J_47 false))
end Go.Vc
