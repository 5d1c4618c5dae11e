/- For each function: what is to be shown of plain data so that it does its work. Printed by program. -/
import Derived.Test.YtlhkfkecoekoeaaGreatDoorAl
import Derived.Test.YtlhkfkecoekoeaaGreatDoorManV
set_option linter.unusedVariables false
namespace Go.Vc
/-- (value.truth).rank: what is to be shown. -/
def V_rankT (c_1 : Bool) (Q : Int → Prop) : Prop :=
 Q (1 : Int)

/-- (value.number).rank: what is to be shown. -/
def V_rankN (c_1 : Int) (Q : Int → Prop) : Prop :=
 Q (2 : Int)

/-- (value.text).rank: what is to be shown. -/
def V_rankX (c_1 : Str) (Q : Int → Prop) : Prop :=
 Q (3 : Int)

/-- (value.atom).rank: what is to be shown. -/
def V_rankA (c_1 : Str) (Q : Int → Prop) : Prop :=
 Q (4 : Int)

/-- (*value.set).rank: what is to be shown. -/
def V_rankS (c_1 : Val) (Q : Int → Prop) : Prop :=
 Q (5 : Int)

/-- (*value.function).rank: what is to be shown. -/
def V_rankF (c_1 : Val) (Q : Int → Prop) : Prop :=
 Q (6 : Int)

/-- Through the interface: rank. -/
def V_irank (x : Val) (Q : Int → Prop) : Prop :=
 match x with
 | .nil => False
 | .truth t => V_rankT t Q
 | .num n => V_rankN n Q
 | .text s => V_rankX s Q
 | .atom s => V_rankA s Q
 | .set l h => V_rankS (.set l h) Q
 | .fn k v h => V_rankF (.fn k v h) Q

/-- (value.truth).weight: what is to be shown. -/
def V_weightT (c_1 : Bool) (Q : Int → Prop) : Prop :=
 Q (1 : Int)

/-- (value.number).weight: what is to be shown. -/
def V_weightN (c_1 : Int) (Q : Int → Prop) : Prop :=
 Q (1 : Int)

/-- (value.text).weight: what is to be shown. -/
def V_weightX (c_1 : Str) (Q : Int → Prop) : Prop :=
 Q (1 : Int)

/-- (value.atom).weight: what is to be shown. -/
def V_weightA (c_1 : Str) (Q : Int → Prop) : Prop :=
 Q (1 : Int)

/-- (*value.set).weight: what is to be shown. -/
def V_weightS (s_1 : Val) (Q : Int → Prop) : Prop :=
 s_1.isSet = true ∧
 (I64 (s_1.setH) →
 Q (s_1.setH))

/-- (*value.function).weight: what is to be shown. -/
def V_weightF (f_1 : Val) (Q : Int → Prop) : Prop :=
 f_1.isFn = true ∧
 (I64 (f_1.fnH) →
 Q (f_1.fnH))

/-- Through the interface: weight. -/
def V_iweight (x : Val) (Q : Int → Prop) : Prop :=
 match x with
 | .nil => False
 | .truth t => V_weightT t Q
 | .num n => V_weightN n Q
 | .text s => V_weightX s Q
 | .atom s => V_weightA s Q
 | .set l h => V_weightS (.set l h) Q
 | .fn k v h => V_weightF (.fn k v h) Q

/-- (value.V).rank: what is to be shown. -/
def V_rank (v_1 : Val) (Q : Int → Prop) : Prop :=
 (v_1.isNil = true →
 Q (0 : Int)) ∧
 (v_1.isNil = false →
 V_irank v_1 fun r_6 =>
 Q r_6)

/-- (value.V).Weight: what is to be shown. -/
def V_Weight (v_1 : Val) (Q : Int → Prop) : Prop :=
 (v_1.isNil = true →
 Q (1 : Int)) ∧
 (v_1.isNil = false →
 V_iweight v_1 fun r_6 =>
 Q r_6)

/-- internal/strconv.AppendBool: what is to be shown. -/
def V_appBool0 (dst_1 : List UInt8) (b_6 : Bool) (Q : (List UInt8) → Prop) : Prop :=
 (b_6 = true →
 Room (dst_1.length + ([116, 114, 117, 101] : Str).length) 1 ∧
 Q (dst_1 ++ ([116, 114, 117, 101] : Str))) ∧
 (b_6 = false →
 Room (dst_1.length + ([102, 97, 108, 115, 101] : Str).length) 1 ∧
 Q (dst_1 ++ ([102, 97, 108, 115, 101] : Str)))

/-- strconv.AppendBool: what is to be shown. -/
def V_appBool (dst_1 : List UInt8) (b_6 : Bool) (Q : (List UInt8) → Prop) : Prop :=
 V_appBool0 dst_1 b_6 fun r_8 =>
 Q r_8

/-- internal/strconv.AppendInt: what is to be shown. -/
def V_appInt0 (dst_1 : List UInt8) (i_6 : Int) (base_8 : Int) (Q : (List UInt8) → Prop) : Prop :=
 VMeet (σ := (List UInt8) × Int) (fun (dst_23, u_27) =>
 V_appUint dst_23 u_27 base_8 fun r_42 =>
 Q r_42) fun J_29 =>
 (i_6 < (0 : Int) →
 Room (dst_1.length + ([u8 (45 : Int)]).length) 1 ∧
 J_29 ((dst_1 ++ ([u8 (45 : Int)])), (IntKind.u64.wrap (-(IntKind.u64.wrap i_6))))) ∧
 (¬ (i_6 < (0 : Int)) →
 J_29 (dst_1, (IntKind.u64.wrap i_6)))

/-- strconv.AppendInt: what is to be shown. -/
def V_appInt (dst_1 : List UInt8) (i_6 : Int) (base_8 : Int) (Q : (List UInt8) → Prop) : Prop :=
 V_appInt0 dst_1 i_6 base_8 fun r_11 =>
 Q r_11

/-- (value.truth).show: what is to be shown. -/
def V_showT (t_1 : Bool) (b_2 : List UInt8) (Q : (List UInt8) → Prop) : Prop :=
 V_appBool b_2 t_1 fun r_8 =>
 Q r_8

/-- (value.number).show: what is to be shown. -/
def V_showN (n_1 : Int) (b_3 : List UInt8) (Q : (List UInt8) → Prop) : Prop :=
 V_appInt b_3 n_1 (10 : Int) fun r_9 =>
 Q r_9

/-- (value.text).show: what is to be shown. -/
def V_showX (t_1 : Str) (b_2 : List UInt8) (Q : (List UInt8) → Prop) : Prop :=
 Room (b_2.length + ([u8 (34 : Int)]).length) 1 ∧
 Room ((b_2 ++ ([u8 (34 : Int)])).length + t_1.length) 1 ∧
 Room (((b_2 ++ ([u8 (34 : Int)])) ++ t_1).length + ([u8 (34 : Int)]).length) 1 ∧
 Q (((b_2 ++ ([u8 (34 : Int)])) ++ t_1) ++ ([u8 (34 : Int)]))

/-- (value.atom).show: what is to be shown. -/
def V_showA (a_1 : Str) (b_2 : List UInt8) (Q : (List UInt8) → Prop) : Prop :=
 Room (b_2.length + a_1.length) 1 ∧
 Q (b_2 ++ a_1)

/-- (*value.set).show$1: what is to be shown. -/
def V_showS1 (G : Val → (List UInt8) → ((List UInt8) → Prop) → Prop) (b_1 : List UInt8) (i_6 : Int) (c_8_11 : Val) (Q : (List UInt8) → Prop) : Prop :=
 c_8_11.isSet = true ∧
 In i_6 (c_8_11.setL) ∧
 G (ix (c_8_11.setL) i_6) b_1 fun r_28 =>
 Q r_28

/-- (*value.function).show$1: what is to be shown. -/
def V_showF1 (G : Val → (List UInt8) → ((List UInt8) → Prop) → Prop) (b_1 : List UInt8) (i_6 : Int) (c_8_11 : Val) (Q : (List UInt8) → Prop) : Prop :=
 c_8_11.isFn = true ∧
 In i_6 (c_8_11.fnV) ∧
 G (ix (c_8_11.fnV) i_6) b_1 fun r_28 =>
 Q r_28

/-- (*value.function).show$2: what is to be shown. -/
def V_showF2 (G : Val → (List UInt8) → ((List UInt8) → Prop) → Prop) (b_1 : List UInt8) (i_6 : Int) (c_8_11 : Val) (Q : (List UInt8) → Prop) : Prop :=
 c_8_11.isFn = true ∧
 In i_6 (c_8_11.fnV) ∧
 c_8_11.isFn = true ∧
 In i_6 (c_8_11.fnK) ∧
 G (ix (c_8_11.fnK) i_6) b_1 fun r_71 =>
 Room (r_71.length + ([58, 32] : Str).length) 1 ∧
 G (ix (c_8_11.fnV) i_6) (r_71 ++ ([58, 32] : Str)) fun r_82 =>
 Q r_82

/-- value.listed#s: what is to be shown. -/
def V_listedS (G : Val → (List UInt8) → ((List UInt8) → Prop) → Prop) (b_1 : List UInt8) (n_6 : Int) (c_9_12 : Val) (Q : (List UInt8) → Prop) : Prop :=
 VLoop (σ := (List UInt8) × Int) (b_1, (0 : Int)) fun (b_48, x_52) xnext_87 =>
 (x_52 < n_6 →
 VMeet (σ := (List UInt8)) (fun b_97 =>
 V_showS1 G b_97 x_52 c_9_12 fun r_110 =>
 I64 (x_52 + (1 : Int)) ∧
 xnext_87 (r_110, (x_52 + (1 : Int)))) fun J_101 =>
 ((0 : Int) < x_52 →
 Room (b_48.length + ([44, 32] : Str).length) 1 ∧
 J_101 (b_48 ++ ([44, 32] : Str))) ∧
 (¬ ((0 : Int) < x_52) →
 J_101 b_48)) ∧
 (¬ (x_52 < n_6) →
 Q b_48)

/-- value.listed#f1: what is to be shown. -/
def V_listedF1 (G : Val → (List UInt8) → ((List UInt8) → Prop) → Prop) (b_1 : List UInt8) (n_6 : Int) (c_9_12 : Val) (Q : (List UInt8) → Prop) : Prop :=
 VLoop (σ := (List UInt8) × Int) (b_1, (0 : Int)) fun (b_48, x_52) xnext_87 =>
 (x_52 < n_6 →
 VMeet (σ := (List UInt8)) (fun b_97 =>
 V_showF1 G b_97 x_52 c_9_12 fun r_110 =>
 I64 (x_52 + (1 : Int)) ∧
 xnext_87 (r_110, (x_52 + (1 : Int)))) fun J_101 =>
 ((0 : Int) < x_52 →
 Room (b_48.length + ([44, 32] : Str).length) 1 ∧
 J_101 (b_48 ++ ([44, 32] : Str))) ∧
 (¬ ((0 : Int) < x_52) →
 J_101 b_48)) ∧
 (¬ (x_52 < n_6) →
 Q b_48)

/-- value.listed#f2: what is to be shown. -/
def V_listedF2 (G : Val → (List UInt8) → ((List UInt8) → Prop) → Prop) (b_1 : List UInt8) (n_6 : Int) (c_9_12 : Val) (Q : (List UInt8) → Prop) : Prop :=
 VLoop (σ := (List UInt8) × Int) (b_1, (0 : Int)) fun (b_48, x_52) xnext_87 =>
 (x_52 < n_6 →
 VMeet (σ := (List UInt8)) (fun b_97 =>
 V_showF2 G b_97 x_52 c_9_12 fun r_110 =>
 I64 (x_52 + (1 : Int)) ∧
 xnext_87 (r_110, (x_52 + (1 : Int)))) fun J_101 =>
 ((0 : Int) < x_52 →
 Room (b_48.length + ([44, 32] : Str).length) 1 ∧
 J_101 (b_48 ++ ([44, 32] : Str))) ∧
 (¬ ((0 : Int) < x_52) →
 J_101 b_48)) ∧
 (¬ (x_52 < n_6) →
 Q b_48)

/-- value.sequential: what is to be shown. -/
def V_sequential (keys_1 : List (Val)) (Q : Bool → Prop) : Prop :=
 (Len keys_1 →
 VLoop (σ := Int) (0 : Int) fun x_29 xnext_57 =>
 (x_29 < (keys_1.length : Int) →
 In x_29 keys_1 ∧
 VMeet (σ := Bool) (fun x_71 =>
 (x_71 = true →
 Q false) ∧
 (x_71 = false →
 I64 (x_29 + (1 : Int)) ∧
 xnext_57 (x_29 + (1 : Int)))) fun J_72 =>
 ((!((ix keys_1 x_29).isNum)) = true →
 J_72 true) ∧
 ((!((ix keys_1 x_29).isNum)) = false →
 I64 (x_29 + (1 : Int)) ∧
 J_72 (decide ((ix keys_1 x_29).numD ≠ (x_29 + (1 : Int)))))) ∧
 (¬ (x_29 < (keys_1.length : Int)) →
 Q true))

/-- (*value.set).show: what is to be shown. -/
def V_showS (G : Val → (List UInt8) → ((List UInt8) → Prop) → Prop) (s_1 : Val) (b_4 : List UInt8) (Q : (List UInt8) → Prop) : Prop :=
 Room (b_4.length + ([u8 (123 : Int)]).length) 1 ∧
 s_1.isSet = true ∧
 (Len (s_1.setL) →
 V_listedS G (b_4 ++ ([u8 (123 : Int)])) ((s_1.setL).length : Int) s_1 fun r_29 =>
 Room (r_29.length + ([u8 (125 : Int)]).length) 1 ∧
 Q (r_29 ++ ([u8 (125 : Int)])))

/-- (*value.function).show: what is to be shown. -/
def V_showF (G : Val → (List UInt8) → ((List UInt8) → Prop) → Prop) (f_1 : Val) (b_4 : List UInt8) (Q : (List UInt8) → Prop) : Prop :=
 f_1.isFn = true ∧
 V_sequential (f_1.fnK) fun r_19 =>
 (r_19 = true →
 Room (b_4.length + ([60, 60] : Str).length) 1 ∧
 f_1.isFn = true ∧
 (Len (f_1.fnV) →
 V_listedF1 G (b_4 ++ ([60, 60] : Str)) ((f_1.fnV).length : Int) f_1 fun r_34 =>
 Room (r_34.length + ([62, 62] : Str).length) 1 ∧
 Q (r_34 ++ ([62, 62] : Str)))) ∧
 (r_19 = false →
 Room (b_4.length + ([u8 (91 : Int)]).length) 1 ∧
 f_1.isFn = true ∧
 (Len (f_1.fnK) →
 V_listedF2 G (b_4 ++ ([u8 (91 : Int)])) ((f_1.fnK).length : Int) f_1 fun r_62 =>
 Room (r_62.length + ([u8 (93 : Int)]).length) 1 ∧
 Q (r_62 ++ ([u8 (93 : Int)]))))

/-- Through the interface: show. -/
def V_ishow (G : Val → Str → (Str → Prop) → Prop) (x : Val) (b : Str) (Q : Str → Prop) : Prop :=
 match x with
 | .nil => False
 | .truth t => V_showT t b Q
 | .num n => V_showN n b Q
 | .text s => V_showX s b Q
 | .atom s => V_showA s b Q
 | .set l h => V_showS G (.set l h) b Q
 | .fn k v h => V_showF G (.fn k v h) b Q

/-- (value.V).put: what is to be shown, so many calls deep. -/
def V_put : Nat → Val → (List UInt8) → ((List UInt8) → Prop) → Prop
 | 0, _, _, _ => False
 | m0 + 1, v_1, b_4, Q =>
 (v_1.isNil = true →
 Room (b_4.length + ([110, 105, 108] : Str).length) 1 ∧
 Q (b_4 ++ ([110, 105, 108] : Str))) ∧
 (v_1.isNil = false →
 V_ishow (V_put m0) v_1 b_4 fun r_17 =>
 Q r_17)

/-- (value.V).Show: what is to be shown. -/
def V_Show (v_1 : Val) (Q : Str → Prop) : Prop :=
 ∃ mf, V_put mf v_1 ([] : List UInt8) fun r_7 =>
 Q r_7

/-- cmp.isNaN[int]: what is to be shown. -/
def V_isNaN (x_1 : Int) (Q : Bool → Prop) : Prop :=
 Q (decide (x_1 ≠ x_1))

/-- cmp.isNaN[value.number]: what is to be shown. -/
def V_isNaNN (x_1 : Int) (Q : Bool → Prop) : Prop :=
 Q (decide (x_1 ≠ x_1))

/-- cmp.isNaN[value.text]: what is to be shown. -/
def V_isNaNX (x_1 : Str) (Q : Bool → Prop) : Prop :=
 Q (decide (x_1 ≠ x_1))

/-- cmp.isNaN[value.atom]: what is to be shown. -/
def V_isNaNA (x_1 : Str) (Q : Bool → Prop) : Prop :=
 Q (decide (x_1 ≠ x_1))

/-- cmp.Compare[int]: what is to be shown. -/
def V_cmpI (x_1 : Int) (y_3 : Int) (Q : Int → Prop) : Prop :=
 V_isNaN x_1 fun r_5 =>
 V_isNaN y_3 fun r_7 =>
 (r_5 = true →
 (r_7 = true →
 Q (0 : Int)) ∧
 (r_7 = false →
 Q (-1))) ∧
 (r_5 = false →
 (r_7 = true →
 Q (1 : Int)) ∧
 (r_7 = false →
 (x_1 < y_3 →
 Q (-1)) ∧
 (¬ (x_1 < y_3) →
 (y_3 < x_1 →
 Q (1 : Int)) ∧
 (¬ (y_3 < x_1) →
 Q (0 : Int)))))

/-- cmp.Compare[value.number]: what is to be shown. -/
def V_cmpN (x_1 : Int) (y_3 : Int) (Q : Int → Prop) : Prop :=
 V_isNaNN x_1 fun r_5 =>
 V_isNaNN y_3 fun r_7 =>
 (r_5 = true →
 (r_7 = true →
 Q (0 : Int)) ∧
 (r_7 = false →
 Q (-1))) ∧
 (r_5 = false →
 (r_7 = true →
 Q (1 : Int)) ∧
 (r_7 = false →
 (x_1 < y_3 →
 Q (-1)) ∧
 (¬ (x_1 < y_3) →
 (y_3 < x_1 →
 Q (1 : Int)) ∧
 (¬ (y_3 < x_1) →
 Q (0 : Int)))))

/-- cmp.Compare[value.text]: what is to be shown. -/
def V_cmpX (x_1 : Str) (y_2 : Str) (Q : Int → Prop) : Prop :=
 V_isNaNX x_1 fun r_3 =>
 V_isNaNX y_2 fun r_5 =>
 (r_3 = true →
 (r_5 = true →
 Q (0 : Int)) ∧
 (r_5 = false →
 Q (-1))) ∧
 (r_3 = false →
 (r_5 = true →
 Q (1 : Int)) ∧
 (r_5 = false →
 ((sLt x_1 y_2) = true →
 Q (-1)) ∧
 ((sLt x_1 y_2) = false →
 ((!(sLt x_1 y_2 || decide (x_1 = y_2))) = true →
 Q (1 : Int)) ∧
 ((!(sLt x_1 y_2 || decide (x_1 = y_2))) = false →
 Q (0 : Int)))))

/-- cmp.Compare[value.atom]: what is to be shown. -/
def V_cmpA (x_1 : Str) (y_2 : Str) (Q : Int → Prop) : Prop :=
 V_isNaNA x_1 fun r_3 =>
 V_isNaNA y_2 fun r_5 =>
 (r_3 = true →
 (r_5 = true →
 Q (0 : Int)) ∧
 (r_5 = false →
 Q (-1))) ∧
 (r_3 = false →
 (r_5 = true →
 Q (1 : Int)) ∧
 (r_5 = false →
 ((sLt x_1 y_2) = true →
 Q (-1)) ∧
 ((sLt x_1 y_2) = false →
 ((!(sLt x_1 y_2 || decide (x_1 = y_2))) = true →
 Q (1 : Int)) ∧
 ((!(sLt x_1 y_2 || decide (x_1 = y_2))) = false →
 Q (0 : Int)))))

/-- cmp.Or[int]: what is to be shown. -/
def V_cmpOr (vals_1 : LI) (Q : Int → Prop) : Prop :=
 (Len vals_1 →
 VLoop (σ := Int) (0 : Int) fun x_19 xnext_37 =>
 (x_19 < (vals_1.length : Int) →
 In x_19 vals_1 ∧
 (I64 (ix vals_1 x_19) →
 ((ix vals_1 x_19) ≠ (0 : Int) →
 Q (ix vals_1 x_19)) ∧
 (¬ ((ix vals_1 x_19) ≠ (0 : Int)) →
 I64 (x_19 + (1 : Int)) ∧
 xnext_37 (x_19 + (1 : Int))))) ∧
 (¬ (x_19 < (vals_1.length : Int)) →
 Q (0 : Int)))

/-- slices.CompareFunc[[]value.V,[]value.V,value.V,value.V]: what is to be shown. -/
def V_CompareFunc (G : Val → Val → (Int → Prop) → Prop) (s1_1 : List (Val)) (s2_4 : List (Val)) (Q : Int → Prop) : Prop :=
 (Len s1_1 →
 VLoop (σ := Int) (0 : Int) fun x_37 xnext_69 =>
 (x_37 < (s1_1.length : Int) →
 In x_37 s1_1 ∧
 (Len s2_4 →
 ((s2_4.length : Int) ≤ x_37 →
 Q (1 : Int)) ∧
 (¬ ((s2_4.length : Int) ≤ x_37) →
 In x_37 s2_4 ∧
 G (ix s1_1 x_37) (ix s2_4 x_37) fun r_89 =>
 (r_89 ≠ (0 : Int) →
 Q r_89) ∧
 (¬ (r_89 ≠ (0 : Int)) →
 I64 (x_37 + (1 : Int)) ∧
 xnext_69 (x_37 + (1 : Int)))))) ∧
 (¬ (x_37 < (s1_1.length : Int)) →
 (Len s1_1 →
 (Len s2_4 →
 ((s1_1.length : Int) < (s2_4.length : Int) →
 Q (-1)) ∧
 (¬ ((s1_1.length : Int) < (s2_4.length : Int)) →
 Q (0 : Int))))))

/-- value.compareLists: what is to be shown. -/
def V_cmpLists (G : Val → Val → (Int → Prop) → Prop) (a_1 : List (Val)) (b_4 : List (Val)) (Q : Int → Prop) : Prop :=
 (Len a_1 →
 (Len b_4 →
 V_cmpI (a_1.length : Int) (b_4.length : Int) fun r_9 =>
 (r_9 ≠ (0 : Int) →
 Q r_9) ∧
 (¬ (r_9 ≠ (0 : Int)) →
 V_CompareFunc G a_1 b_4 fun r_13 =>
 Q r_13)))

/-- value.Compare: what is to be shown, so many calls deep. -/
def V_Compare : Nat → Val → Val → (Int → Prop) → Prop
 | 0, _, _, _ => False
 | m0 + 1, a_1, b_4, Q =>
 V_rank a_1 fun r_15 =>
 V_rank b_4 fun r_18 =>
 V_cmpI r_15 r_18 fun r_21 =>
 VMeet (σ := Bool) (fun x_28 =>
 (x_28 = true →
 Q r_21) ∧
 (x_28 = false →
 (a_1.isTruth = true →
 b_4.isTruth = true ∧
 ((a_1.truthD == b_4.truthD) = true →
 Q (0 : Int)) ∧
 ((a_1.truthD == b_4.truthD) = false →
 (b_4.truthD = true →
 Q (-1)) ∧
 (b_4.truthD = false →
 Q (1 : Int)))) ∧
 (a_1.isTruth = false →
 (a_1.isNum = true →
 b_4.isNum = true ∧
 V_cmpN a_1.numD b_4.numD fun r_37 =>
 Q r_37) ∧
 (a_1.isNum = false →
 (a_1.isText = true →
 b_4.isText = true ∧
 V_cmpX a_1.textD b_4.textD fun r_41 =>
 Q r_41) ∧
 (a_1.isText = false →
 (a_1.isAtom = true →
 b_4.isAtom = true ∧
 V_cmpA a_1.atomD b_4.atomD fun r_45 =>
 Q r_45) ∧
 (a_1.isAtom = false →
 (a_1.isSet = true →
 a_1.isSet = true ∧
 b_4.isSet = true ∧
 b_4.isSet = true ∧
 V_cmpLists (V_Compare m0) (a_1.setL) (b_4.setL) fun r_87 =>
 Q r_87) ∧
 (a_1.isSet = false →
 (a_1.isFn = true →
 b_4.isFn = true ∧
 a_1.isFn = true ∧
 b_4.isFn = true ∧
 a_1.isFn = true ∧
 b_4.isFn = true ∧
 V_cmpLists (V_Compare m0) (a_1.fnK) (b_4.fnK) fun r_157 =>
 V_cmpLists (V_Compare m0) (a_1.fnV) (b_4.fnV) fun r_160 =>
 V_cmpOr ([r_157, r_160]) fun r_168 =>
 Q r_168) ∧
 (a_1.isFn = false →
 Q (0 : Int))))))))) fun J_29 =>
 (r_21 ≠ (0 : Int) →
 J_29 true) ∧
 (¬ (r_21 ≠ (0 : Int)) →
 J_29 a_1.isNil)

/-- value.Truth: what is to be shown. -/
def V_Truth (b_1 : Bool) (Q : Val → Prop) : Prop :=
 Q (Val.truth b_1)

/-- value.Number: what is to be shown. -/
def V_Number (n_1 : Int) (Q : Val → Prop) : Prop :=
 Q (Val.num n_1)

/-- value.Text: what is to be shown. -/
def V_Text (s_1 : Str) (Q : Val → Prop) : Prop :=
 Q (Val.text s_1)

/-- value.Atom: what is to be shown. -/
def V_Atom (s_1 : Str) (Q : Val → Prop) : Prop :=
 Q (Val.atom s_1)

/-- value.ascendingSet: what is to be shown. -/
def V_ascSet (l_1 : List (Val)) (Q : Val → Prop) : Prop :=
 (Len l_1 →
 VLoop (σ := Int × Int) ((1 : Int), (0 : Int)) fun (heavy_26, x_28) xnext_51 =>
 (x_28 < (l_1.length : Int) →
 In x_28 l_1 ∧
 V_Weight (ix l_1 x_28) fun r_61 =>
 I64 (heavy_26 + r_61) ∧
 ((1024 : Int) < (heavy_26 + r_61) →
 Q Val.nil) ∧
 (¬ ((1024 : Int) < (heavy_26 + r_61)) →
 I64 (x_28 + (1 : Int)) ∧
 xnext_51 ((heavy_26 + r_61), (x_28 + (1 : Int))))) ∧
 (¬ (x_28 < (l_1.length : Int)) →
 Q (Val.set l_1 heavy_26)))

/-- value.SetOf$1: what is to be shown. -/
def V_SetOf1 (a_1 : Val) (b_4 : Val) (Q : Bool → Prop) : Prop :=
 ∃ mf, V_Compare mf a_1 b_4 fun r_11 =>
 Q (decide (r_11 = (0 : Int)))

/-- slices.SortFunc by the order: what is to be shown. -/
def V_SortV (x : List Val) (Q : List Val → Prop) : Prop := x.length < 4611686018427387904 ∧ ∃ c : Val → Val → Int,
 (∀ a ∈ x, ∀ b ∈ x, ∃ m, V_Compare m a b fun r => r = c a b) ∧ (∀ a ∈ x, ¬ c a a < 0) ∧ (∀ a ∈ x, ∀ b ∈ x, ∀ d ∈ x, c a b < 0 → c b d < 0 → c a d < 0) ∧ (∀ a ∈ x, ∀ b ∈ x, ∀ d ∈ x, ¬ c a b < 0 → ¬ c b d < 0 → ¬ c a d < 0) ∧
 ∀ y, y.Perm x → y.Pairwise (fun a b => ¬ c b a < 0) → Q y

/-- slices.CompactFunc[[]value.V,value.V]: what is to be shown. -/
def V_CompactV (s_1 : List (Val)) (Q : (List (Val)) → Prop) : Prop :=
 (Len s_1 →
 ((s_1.length : Int) < (2 : Int) →
 Q s_1) ∧
 (¬ ((s_1.length : Int) < (2 : Int)) →
 VLoop (σ := Int) (1 : Int) fun k_423 xnext_840 =>
 (Len s_1 →
 (k_423 < (s_1.length : Int) →
 In k_423 s_1 ∧
 I64 (k_423 - (1 : Int)) ∧
 In (k_423 - (1 : Int)) s_1 ∧
 V_SetOf1 (ix s_1 k_423) (ix s_1 (k_423 - (1 : Int))) fun r_877 =>
 (r_877 = true →
 In k_423 s_1 ∧
 VLoop (σ := (List (Val)) × Int × Int) (s_1, k_423, (1 : Int)) fun (s_998, k_1001, k2_1003) xnext_1123 =>
 I64 ((s_998.length : Int) - k_423) ∧
 (k2_1003 < ((s_998.length : Int) - k_423) →
 VMeet (σ := (List (Val)) × Int) (fun (s_1178, k_1181) =>
 I64 (k2_1003 + (1 : Int)) ∧
 xnext_1123 (s_1178, k_1181, (k2_1003 + (1 : Int)))) fun J_1183 =>
 ((0 : Int) ≤ k2_1003 ∧ (0 : Int) ≤ (k_423 + k2_1003) ∧ (k_423 + k2_1003) < (s_998.length : Int)) ∧
 I64 (k2_1003 - (1 : Int)) ∧
 ((0 : Int) ≤ (k2_1003 - (1 : Int)) ∧ (0 : Int) ≤ (k_423 + (k2_1003 - (1 : Int))) ∧ (k_423 + (k2_1003 - (1 : Int))) < (s_998.length : Int)) ∧
 V_SetOf1 (ix s_998 (k_423 + k2_1003)) (ix s_998 (k_423 + (k2_1003 - (1 : Int)))) fun r_1219 =>
 ((!r_1219) = true →
 ((0 : Int) ≤ k2_1003 ∧ (0 : Int) ≤ (k_423 + k2_1003) ∧ (k_423 + k2_1003) < (s_998.length : Int)) ∧
 In k_1001 s_998 ∧
 I64 (k_1001 + (1 : Int)) ∧
 J_1183 ((s_998.set k_1001.toNat (ix s_998 (k_423 + k2_1003))), (k_1001 + (1 : Int)))) ∧
 ((!r_1219) = false →
 J_1183 (s_998, k_1001))) ∧
 (¬ (k2_1003 < ((s_998.length : Int) - k_423)) →
 In k_1001 s_998 ∧
 ((0 : Int) ≤ k_1001 ∧ k_1001 ≤ ((s_998.take k_1001.toNat ++ List.replicate (s_998.length - k_1001.toNat) Val.nil).length : Int)) ∧
 Q ((s_998.take k_1001.toNat ++ List.replicate (s_998.length - k_1001.toNat) Val.nil).take k_1001.toNat))) ∧
 (r_877 = false →
 I64 (k_423 + (1 : Int)) ∧
 xnext_840 (k_423 + (1 : Int)))) ∧
 (¬ (k_423 < (s_1.length : Int)) →
 Q s_1))))

/-- value.SetOf: what is to be shown. -/
def V_SetOf (l_1 : List (Val)) (Q : Val → Prop) : Prop :=
 V_SortV l_1 fun c_8 =>
 V_CompactV c_8 fun r_12 =>
 V_ascSet r_12 fun r_21 =>
 Q r_21

/-- value.FunctionOf$1: what is to be shown. -/
def V_FunOf1 (i_1 : Int) (k_3 : Int) (c_5_8 : List (Val)) (Q : Int → Prop) : Prop :=
 In i_1 c_5_8 ∧
 In k_3 c_5_8 ∧
 ∃ mf, V_Compare mf (ix c_5_8 i_1) (ix c_5_8 k_3) fun r_39 =>
 Q r_39

/-- slices.insertionSortCmpFunc[int]: what is to be shown. -/
def V_insSF (data_1 : LI) (a_6 : Int) (b_8 : Int) (c_11_14 : List (Val)) (Q : LI → Prop) : Prop :=
 I64 (a_6 + (1 : Int)) ∧
 VLoop (σ := LI × Int) (data_1, (a_6 + (1 : Int))) fun (data_404, i_407) xnext_796 =>
 (i_407 < b_8 →
 VLoop (σ := LI × Int) (data_404, i_407) fun (data_922, j_925) xnext_1053 =>
 VMeet (σ := Bool) (fun x_1082 =>
 (x_1082 = true →
 I64 (j_925 - (1 : Int)) ∧
 I64 (j_925 - (1 : Int)) ∧
 In (j_925 - (1 : Int)) data_922 ∧
 (I64 (ix data_922 (j_925 - (1 : Int))) →
 In j_925 data_922 ∧
 (I64 (ix data_922 j_925) →
 In j_925 data_922 ∧
 In (j_925 - (1 : Int)) (data_922.set j_925.toNat (ix data_922 (j_925 - (1 : Int)))) ∧
 I64 (j_925 - (1 : Int)) ∧
 xnext_1053 (((data_922.set j_925.toNat (ix data_922 (j_925 - (1 : Int)))).set (j_925 - (1 : Int)).toNat (ix data_922 j_925)), (j_925 - (1 : Int)))))) ∧
 (x_1082 = false →
 I64 (i_407 + (1 : Int)) ∧
 xnext_796 (data_922, (i_407 + (1 : Int))))) fun J_1083 =>
 (a_6 < j_925 →
 In j_925 data_922 ∧
 (I64 (ix data_922 j_925) →
 I64 (j_925 - (1 : Int)) ∧
 In (j_925 - (1 : Int)) data_922 ∧
 (I64 (ix data_922 (j_925 - (1 : Int))) →
 ∃ (r_1107 : Int), V_FunOf1 (ix data_922 j_925) (ix data_922 (j_925 - (1 : Int))) c_11_14 (fun y0 => y0 = r_1107) ∧ I64 r_1107 ∧
 J_1083 (decide (r_1107 < (0 : Int)))))) ∧
 (¬ (a_6 < j_925) →
 J_1083 false)) ∧
 (¬ (i_407 < b_8) →
 Q data_404)

/-- slices.swapRangeCmpFunc[int]: what is to be shown. -/
def V_swapSF (data_1 : LI) (a_6 : Int) (b_8 : Int) (n_10 : Int) (c_13_16 : List (Val)) (Q : LI → Prop) : Prop :=
 VLoop (σ := LI × Int) (data_1, (0 : Int)) fun (data_101, i_104) xnext_190 =>
 (i_104 < n_10 →
 I64 (a_6 + i_104) ∧
 I64 (b_8 + i_104) ∧
 I64 (b_8 + i_104) ∧
 In (b_8 + i_104) data_101 ∧
 (I64 (ix data_101 (b_8 + i_104)) →
 I64 (a_6 + i_104) ∧
 In (a_6 + i_104) data_101 ∧
 (I64 (ix data_101 (a_6 + i_104)) →
 In (a_6 + i_104) data_101 ∧
 In (b_8 + i_104) (data_101.set (a_6 + i_104).toNat (ix data_101 (b_8 + i_104))) ∧
 I64 (i_104 + (1 : Int)) ∧
 xnext_190 (((data_101.set (a_6 + i_104).toNat (ix data_101 (b_8 + i_104))).set (b_8 + i_104).toNat (ix data_101 (a_6 + i_104))), (i_104 + (1 : Int)))))) ∧
 (¬ (i_104 < n_10) →
 Q data_101)

/-- slices.rotateCmpFunc[int]: what is to be shown. -/
def V_rotSF (data_1 : LI) (a_6 : Int) (m_8 : Int) (b_10 : Int) (c_13_16 : List (Val)) (Q : LI → Prop) : Prop :=
 I64 (m_8 - a_6) ∧
 I64 (b_10 - m_8) ∧
 VLoop (σ := LI × Int × Int) (data_1, (m_8 - a_6), (b_10 - m_8)) fun (data_47, i_50, j_52) xnext_80 =>
 (i_50 ≠ j_52 →
 (j_52 < i_50 →
 I64 (m_8 - i_50) ∧
 V_swapSF data_47 (m_8 - i_50) m_8 j_52 c_13_16 fun c_85 =>
 I64 (i_50 - j_52) ∧
 xnext_80 (c_85, (i_50 - j_52), j_52)) ∧
 (¬ (j_52 < i_50) →
 I64 (m_8 - i_50) ∧
 I64 (m_8 + j_52) ∧
 I64 ((m_8 + j_52) - i_50) ∧
 V_swapSF data_47 (m_8 - i_50) ((m_8 + j_52) - i_50) i_50 c_13_16 fun c_97 =>
 I64 (j_52 - i_50) ∧
 xnext_80 (c_97, i_50, (j_52 - i_50)))) ∧
 (¬ (i_50 ≠ j_52) →
 I64 (m_8 - i_50) ∧
 V_swapSF data_47 (m_8 - i_50) m_8 i_50 c_13_16 fun c_106 =>
 Q c_106)

/-- slices.symMergeCmpFunc[int]: what is to be shown, so many calls deep. -/
def V_symSF : Nat → LI → Int → Int → Int → (List (Val)) → (LI → Prop) → Prop
 | 0, _, _, _, _, _, _ => False
 | m0 + 1, data_1, a_6, m_8, b_10, c_13_16, Q =>
 I64 (m_8 - a_6) ∧
 ((m_8 - a_6) = (1 : Int) →
 VLoop (σ := Int × Int) (m_8, b_10) fun (i_69, j_71) xnext_122 =>
 (i_69 < j_71 →
 I64 (i_69 + j_71) ∧
 In (IntKind.i64.wrap ((IntKind.u64.wrap (i_69 + j_71)) / 2)) data_1 ∧
 (I64 (ix data_1 (IntKind.i64.wrap ((IntKind.u64.wrap (i_69 + j_71)) / 2))) →
 In a_6 data_1 ∧
 (I64 (ix data_1 a_6) →
 V_FunOf1 (ix data_1 (IntKind.i64.wrap ((IntKind.u64.wrap (i_69 + j_71)) / 2))) (ix data_1 a_6) c_13_16 fun r_160 =>
 (r_160 < (0 : Int) →
 I64 ((IntKind.i64.wrap ((IntKind.u64.wrap (i_69 + j_71)) / 2)) + (1 : Int)) ∧
 xnext_122 (((IntKind.i64.wrap ((IntKind.u64.wrap (i_69 + j_71)) / 2)) + (1 : Int)), j_71)) ∧
 (¬ (r_160 < (0 : Int)) →
 xnext_122 (i_69, (IntKind.i64.wrap ((IntKind.u64.wrap (i_69 + j_71)) / 2))))))) ∧
 (¬ (i_69 < j_71) →
 VLoop (σ := LI × Int) (data_1, a_6) fun (data_237, k_240) xnext_312 =>
 I64 (i_69 - (1 : Int)) ∧
 (k_240 < (i_69 - (1 : Int)) →
 I64 (k_240 + (1 : Int)) ∧
 I64 (k_240 + (1 : Int)) ∧
 In (k_240 + (1 : Int)) data_237 ∧
 (I64 (ix data_237 (k_240 + (1 : Int))) →
 In k_240 data_237 ∧
 (I64 (ix data_237 k_240) →
 In k_240 data_237 ∧
 In (k_240 + (1 : Int)) (data_237.set k_240.toNat (ix data_237 (k_240 + (1 : Int)))) ∧
 I64 (k_240 + (1 : Int)) ∧
 xnext_312 (((data_237.set k_240.toNat (ix data_237 (k_240 + (1 : Int)))).set (k_240 + (1 : Int)).toNat (ix data_237 k_240)), (k_240 + (1 : Int)))))) ∧
 (¬ (k_240 < (i_69 - (1 : Int))) →
 Q data_237))) ∧
 (¬ ((m_8 - a_6) = (1 : Int)) →
 I64 (b_10 - m_8) ∧
 ((b_10 - m_8) = (1 : Int) →
 VLoop (σ := Int × Int) (a_6, m_8) fun (i_436, j_438) xnext_491 =>
 (i_436 < j_438 →
 I64 (i_436 + j_438) ∧
 In m_8 data_1 ∧
 (I64 (ix data_1 m_8) →
 In (IntKind.i64.wrap ((IntKind.u64.wrap (i_436 + j_438)) / 2)) data_1 ∧
 (I64 (ix data_1 (IntKind.i64.wrap ((IntKind.u64.wrap (i_436 + j_438)) / 2))) →
 V_FunOf1 (ix data_1 m_8) (ix data_1 (IntKind.i64.wrap ((IntKind.u64.wrap (i_436 + j_438)) / 2))) c_13_16 fun r_529 =>
 (¬ (r_529 < (0 : Int)) →
 I64 ((IntKind.i64.wrap ((IntKind.u64.wrap (i_436 + j_438)) / 2)) + (1 : Int)) ∧
 xnext_491 (((IntKind.i64.wrap ((IntKind.u64.wrap (i_436 + j_438)) / 2)) + (1 : Int)), j_438)) ∧
 (r_529 < (0 : Int) →
 xnext_491 (i_436, (IntKind.i64.wrap ((IntKind.u64.wrap (i_436 + j_438)) / 2))))))) ∧
 (¬ (i_436 < j_438) →
 VLoop (σ := LI × Int) (data_1, m_8) fun (data_606, k_609) xnext_679 =>
 (i_436 < k_609 →
 I64 (k_609 - (1 : Int)) ∧
 I64 (k_609 - (1 : Int)) ∧
 In (k_609 - (1 : Int)) data_606 ∧
 (I64 (ix data_606 (k_609 - (1 : Int))) →
 In k_609 data_606 ∧
 (I64 (ix data_606 k_609) →
 In k_609 data_606 ∧
 In (k_609 - (1 : Int)) (data_606.set k_609.toNat (ix data_606 (k_609 - (1 : Int)))) ∧
 I64 (k_609 - (1 : Int)) ∧
 xnext_679 (((data_606.set k_609.toNat (ix data_606 (k_609 - (1 : Int)))).set (k_609 - (1 : Int)).toNat (ix data_606 k_609)), (k_609 - (1 : Int)))))) ∧
 (¬ (i_436 < k_609) →
 Q data_606))) ∧
 (¬ ((b_10 - m_8) = (1 : Int)) →
 I64 (a_6 + b_10) ∧
 I64 ((IntKind.i64.wrap ((IntKind.u64.wrap (a_6 + b_10)) / 2)) + m_8) ∧
 VMeet (σ := Int × Int) (fun (start_757, r_759) =>
 I64 (((IntKind.i64.wrap ((IntKind.u64.wrap (a_6 + b_10)) / 2)) + m_8) - (1 : Int)) ∧
 VLoop (σ := Int × Int) (start_757, r_759) fun (start_824, r_826) xnext_885 =>
 (start_824 < r_826 →
 I64 (start_824 + r_826) ∧
 I64 ((((IntKind.i64.wrap ((IntKind.u64.wrap (a_6 + b_10)) / 2)) + m_8) - (1 : Int)) - (IntKind.i64.wrap ((IntKind.u64.wrap (start_824 + r_826)) / 2))) ∧
 In ((((IntKind.i64.wrap ((IntKind.u64.wrap (a_6 + b_10)) / 2)) + m_8) - (1 : Int)) - (IntKind.i64.wrap ((IntKind.u64.wrap (start_824 + r_826)) / 2))) data_1 ∧
 (I64 (ix data_1 ((((IntKind.i64.wrap ((IntKind.u64.wrap (a_6 + b_10)) / 2)) + m_8) - (1 : Int)) - (IntKind.i64.wrap ((IntKind.u64.wrap (start_824 + r_826)) / 2)))) →
 In (IntKind.i64.wrap ((IntKind.u64.wrap (start_824 + r_826)) / 2)) data_1 ∧
 (I64 (ix data_1 (IntKind.i64.wrap ((IntKind.u64.wrap (start_824 + r_826)) / 2))) →
 V_FunOf1 (ix data_1 ((((IntKind.i64.wrap ((IntKind.u64.wrap (a_6 + b_10)) / 2)) + m_8) - (1 : Int)) - (IntKind.i64.wrap ((IntKind.u64.wrap (start_824 + r_826)) / 2)))) (ix data_1 (IntKind.i64.wrap ((IntKind.u64.wrap (start_824 + r_826)) / 2))) c_13_16 fun r_929 =>
 (¬ (r_929 < (0 : Int)) →
 I64 ((IntKind.i64.wrap ((IntKind.u64.wrap (start_824 + r_826)) / 2)) + (1 : Int)) ∧
 xnext_885 (((IntKind.i64.wrap ((IntKind.u64.wrap (start_824 + r_826)) / 2)) + (1 : Int)), r_826)) ∧
 (r_929 < (0 : Int) →
 xnext_885 (start_824, (IntKind.i64.wrap ((IntKind.u64.wrap (start_824 + r_826)) / 2))))))) ∧
 (¬ (start_824 < r_826) →
 I64 (((IntKind.i64.wrap ((IntKind.u64.wrap (a_6 + b_10)) / 2)) + m_8) - start_824) ∧
 VMeet (σ := LI) (fun data_952 =>
 VMeet (σ := LI) (fun data_977 =>
 (((IntKind.i64.wrap ((IntKind.u64.wrap (a_6 + b_10)) / 2)) < (((IntKind.i64.wrap ((IntKind.u64.wrap (a_6 + b_10)) / 2)) + m_8) - start_824)) ∧ ((((IntKind.i64.wrap ((IntKind.u64.wrap (a_6 + b_10)) / 2)) + m_8) - start_824) < b_10) →
 V_symSF m0 data_977 (IntKind.i64.wrap ((IntKind.u64.wrap (a_6 + b_10)) / 2)) (((IntKind.i64.wrap ((IntKind.u64.wrap (a_6 + b_10)) / 2)) + m_8) - start_824) b_10 c_13_16 fun c_997 =>
 Q c_997) ∧
 (¬ (((IntKind.i64.wrap ((IntKind.u64.wrap (a_6 + b_10)) / 2)) < (((IntKind.i64.wrap ((IntKind.u64.wrap (a_6 + b_10)) / 2)) + m_8) - start_824)) ∧ ((((IntKind.i64.wrap ((IntKind.u64.wrap (a_6 + b_10)) / 2)) + m_8) - start_824) < b_10)) →
 Q data_977)) fun J_980 =>
 ((a_6 < start_824) ∧ (start_824 < (IntKind.i64.wrap ((IntKind.u64.wrap (a_6 + b_10)) / 2))) →
 V_symSF m0 data_952 a_6 start_824 (IntKind.i64.wrap ((IntKind.u64.wrap (a_6 + b_10)) / 2)) c_13_16 fun c_987 =>
 J_980 c_987) ∧
 (¬ ((a_6 < start_824) ∧ (start_824 < (IntKind.i64.wrap ((IntKind.u64.wrap (a_6 + b_10)) / 2)))) →
 J_980 data_952)) fun J_955 =>
 ((start_824 < m_8) ∧ (m_8 < (((IntKind.i64.wrap ((IntKind.u64.wrap (a_6 + b_10)) / 2)) + m_8) - start_824)) →
 V_rotSF data_1 start_824 m_8 (((IntKind.i64.wrap ((IntKind.u64.wrap (a_6 + b_10)) / 2)) + m_8) - start_824) c_13_16 fun c_962 =>
 J_955 c_962) ∧
 (¬ ((start_824 < m_8) ∧ (m_8 < (((IntKind.i64.wrap ((IntKind.u64.wrap (a_6 + b_10)) / 2)) + m_8) - start_824))) →
 J_955 data_1))) fun J_761 =>
 ((IntKind.i64.wrap ((IntKind.u64.wrap (a_6 + b_10)) / 2)) < m_8 →
 I64 (((IntKind.i64.wrap ((IntKind.u64.wrap (a_6 + b_10)) / 2)) + m_8) - b_10) ∧
 J_761 ((((IntKind.i64.wrap ((IntKind.u64.wrap (a_6 + b_10)) / 2)) + m_8) - b_10), (IntKind.i64.wrap ((IntKind.u64.wrap (a_6 + b_10)) / 2)))) ∧
 (¬ ((IntKind.i64.wrap ((IntKind.u64.wrap (a_6 + b_10)) / 2)) < m_8) →
 J_761 (a_6, m_8))))

/-- slices.stableCmpFunc[int]: what is to be shown. -/
def V_stabSF (data_1 : LI) (n_6 : Int) (c_9_12 : List (Val)) (Q : LI → Prop) : Prop :=
 VLoop (σ := LI × Int × Int) (data_1, (0 : Int), (20 : Int)) fun (data_23, a_26, b_28) xnext_40 =>
 (b_28 ≤ n_6 →
 V_insSF data_23 a_26 b_28 c_9_12 fun c_42 =>
 I64 (b_28 + (20 : Int)) ∧
 xnext_40 (c_42, b_28, (b_28 + (20 : Int)))) ∧
 (¬ (b_28 ≤ n_6) →
 V_insSF data_23 a_26 n_6 c_9_12 fun c_48 =>
 VLoop (σ := LI × Int) (c_48, (20 : Int)) fun (data_126, blockSize_129) xnext_207 =>
 (blockSize_129 < n_6 →
 I64 ((2 : Int) * blockSize_129) ∧
 VLoop (σ := LI × Int × Int) (data_126, (0 : Int), ((2 : Int) * blockSize_129)) fun (data_223, a_226, b_228) xnext_244 =>
 (b_228 ≤ n_6 →
 I64 (a_226 + blockSize_129) ∧
 ∃ mf, V_symSF mf data_223 a_226 (a_226 + blockSize_129) b_228 c_9_12 fun c_248 =>
 I64 ((2 : Int) * blockSize_129) ∧
 I64 (b_228 + ((2 : Int) * blockSize_129)) ∧
 xnext_244 (c_248, b_228, (b_228 + ((2 : Int) * blockSize_129)))) ∧
 (¬ (b_228 ≤ n_6) →
 VMeet (σ := LI) (fun data_264 =>
 I64 (blockSize_129 * (2 : Int)) ∧
 xnext_207 (data_264, (blockSize_129 * (2 : Int)))) fun J_267 =>
 I64 (a_226 + blockSize_129) ∧
 ((a_226 + blockSize_129) < n_6 →
 ∃ mf, V_symSF mf data_223 a_226 (a_226 + blockSize_129) n_6 c_9_12 fun c_272 =>
 J_267 c_272) ∧
 (¬ ((a_226 + blockSize_129) < n_6) →
 J_267 data_223))) ∧
 (¬ (blockSize_129 < n_6) →
 Q data_126))

/-- slices.SortStableFunc[[]int,int]: what is to be shown. -/
def V_SortSF (x_1 : LI) (c_7_10 : List (Val)) (Q : LI → Prop) : Prop :=
 (Len x_1 →
 V_stabSF x_1 (x_1.length : Int) c_7_10 fun c_14 =>
 Q c_14)

/-- value.FunctionOf: what is to be shown. -/
def V_FunctionOf (keys_1 : List (Val)) (vals_4 : List (Val)) (Q : Val → Prop) : Prop :=
 (Len keys_1 →
 Made (keys_1.length : Int) 8 ∧
 (Len (List.replicate (keys_1.length : Int).toNat (0 : Int)) →
 VLoop (σ := LI × Int) ((List.replicate (keys_1.length : Int).toNat (0 : Int)), (0 : Int)) fun (order_28, x_32) xnext_45 =>
 (x_32 < ((List.replicate (keys_1.length : Int).toNat (0 : Int)).length : Int) →
 In x_32 order_28 ∧
 I64 (x_32 + (1 : Int)) ∧
 xnext_45 ((order_28.set x_32.toNat x_32), (x_32 + (1 : Int)))) ∧
 (¬ (x_32 < ((List.replicate (keys_1.length : Int).toNat (0 : Int)).length : Int)) →
 V_SortSF order_28 keys_1 fun c_54 =>
 (Len c_54 →
 VLoop (σ := (List (Val)) × (List (Val)) × Int × Int) (([] : List (Val)), ([] : List (Val)), (1 : Int), (0 : Int)) fun (c_498, c_503, c_507, x_509) xnext_947 =>
 (x_509 < (c_54.length : Int) →
 VMeet (σ := (List (Val)) × (List (Val)) × Int) (fun (c_1158, c_1163, c_1167) =>
 I64 (x_509 + (1 : Int)) ∧
 xnext_947 (c_1158, c_1163, c_1167, (x_509 + (1 : Int)))) fun J_1169 =>
 In x_509 c_54 ∧
 (I64 (ix c_54 x_509) →
 VMeet (σ := Bool) (fun x_1212 =>
 (x_1212 = true →
 J_1169 (c_498, c_503, c_507)) ∧
 (x_1212 = false →
 In (ix c_54 x_509) keys_1 ∧
 Room (c_498.length + ([(ix keys_1 (ix c_54 x_509))]).length) 16 ∧
 In (ix c_54 x_509) vals_4 ∧
 Room (c_503.length + ([(ix vals_4 (ix c_54 x_509))]).length) 16 ∧
 In (ix c_54 x_509) keys_1 ∧
 In (ix c_54 x_509) vals_4 ∧
 V_Weight (ix keys_1 (ix c_54 x_509)) fun r_1358 =>
 V_Weight (ix vals_4 (ix c_54 x_509)) fun r_1361 =>
 I64 (r_1358 + r_1361) ∧
 I64 (c_507 + (r_1358 + r_1361)) ∧
 ((1024 : Int) < (c_507 + (r_1358 + r_1361)) →
 Q Val.nil) ∧
 (¬ ((1024 : Int) < (c_507 + (r_1358 + r_1361))) →
 J_1169 ((c_498 ++ ([(ix keys_1 (ix c_54 x_509))])), (c_503 ++ ([(ix vals_4 (ix c_54 x_509))])), (c_507 + (r_1358 + r_1361)))))) fun J_1213 =>
 ((0 : Int) < x_509 →
 I64 (x_509 - (1 : Int)) ∧
 In (x_509 - (1 : Int)) c_54 ∧
 (I64 (ix c_54 (x_509 - (1 : Int))) →
 In (ix c_54 (x_509 - (1 : Int))) keys_1 ∧
 In (ix c_54 x_509) keys_1 ∧
 ∃ (mf_1244 : Nat) (r_1241 : Int), V_Compare mf_1244 (ix keys_1 (ix c_54 (x_509 - (1 : Int)))) (ix keys_1 (ix c_54 x_509)) (fun y0 => y0 = r_1241) ∧ I64 r_1241 ∧
 J_1213 (decide (r_1241 = (0 : Int))))) ∧
 (¬ ((0 : Int) < x_509) →
 J_1213 false))) ∧
 (¬ (x_509 < (c_54.length : Int)) →
 Q (Val.fn c_498 c_503 c_507))))))

/-- value.SequenceOf: what is to be shown. -/
def V_SequenceOf (l_1 : List (Val)) (Q : Val → Prop) : Prop :=
 (Len l_1 →
 Made (l_1.length : Int) 16 ∧
 (Len (List.replicate (l_1.length : Int).toNat Val.nil) →
 VLoop (σ := (List (Val)) × Int) ((List.replicate (l_1.length : Int).toNat Val.nil), (0 : Int)) fun (keys_50, x_54) xnext_74 =>
 (x_54 < ((List.replicate (l_1.length : Int).toNat Val.nil).length : Int) →
 I64 (x_54 + (1 : Int)) ∧
 V_Number (x_54 + (1 : Int)) fun r_78 =>
 In x_54 keys_50 ∧
 I64 (x_54 + (1 : Int)) ∧
 xnext_74 ((keys_50.set x_54.toNat r_78), (x_54 + (1 : Int)))) ∧
 (¬ (x_54 < ((List.replicate (l_1.length : Int).toNat Val.nil).length : Int)) →
 V_FunctionOf keys_50 l_1 fun r_93 =>
 Q r_93)))

/-- (*value.reader).fail: what is to be shown. -/
def V_fail (text_4 : Str) (xat_5 : Int) (deep_7 : Int) (heavy_9 : Bool) (err_10 : Int) (E : Int → Int → Prop) (Q : Prop) : Prop :=
 E err_10 xat_5

/-- (*value.reader).skip: what is to be shown. -/
def V_skip (text_4 : Str) (xat_5 : Int) (deep_7 : Int) (heavy_9 : Bool) (Q : Int → Prop) : Prop :=
 VLoop (σ := Int) xat_5 fun c_32 xnext_58 =>
 VMeet (σ := Bool) (fun x_67 =>
 (x_67 = true →
 I64 (c_32 + (1 : Int)) ∧
 xnext_58 (c_32 + (1 : Int))) ∧
 (x_67 = false →
 Q c_32)) fun J_68 =>
 Len text_4 ∧
 (c_32 < (text_4.length : Int) →
 In c_32 text_4 ∧
 ∃ (r_74 : Int), V_IndexByte ([32, 9, 10] : Str) (byte text_4 c_32) (fun y0 => y0 = r_74) ∧ I64 r_74 ∧
 J_68 (decide ((0 : Int) ≤ r_74))) ∧
 (¬ (c_32 < (text_4.length : Int)) →
 J_68 false)

/-- internal/stringslite.HasPrefix: what is to be shown. -/
def V_hasPre0 (s_1 : Str) (prefix_2 : Str) (Q : Bool → Prop) : Prop :=
 VMeet (σ := Bool) (fun x_9 =>
 Q x_9) fun J_10 =>
 Len s_1 ∧
 Len prefix_2 ∧
 ((prefix_2.length : Int) ≤ (s_1.length : Int) →
 Len prefix_2 ∧
 ((0 : Int) ≤ (prefix_2.length : Int) ∧ (prefix_2.length : Int) ≤ (s_1.length : Int)) ∧
 J_10 (decide ((s_1.take (prefix_2.length : Int).toNat) = prefix_2))) ∧
 (¬ ((prefix_2.length : Int) ≤ (s_1.length : Int)) →
 J_10 false)

/-- strings.HasPrefix: what is to be shown. -/
def V_hasPre (s_1 : Str) (prefix_2 : Str) (Q : Bool → Prop) : Prop :=
 V_hasPre0 s_1 prefix_2 fun r_3 =>
 Q r_3

/-- (*value.reader).take: what is to be shown. -/
def V_take (text_4 : Str) (xat_5 : Int) (deep_7 : Int) (heavy_9 : Bool) (sign_10 : Str) (Q : Bool → Int → Prop) : Prop :=
 V_skip text_4 xat_5 deep_7 heavy_9 fun r_11 =>
 ((0 : Int) ≤ r_11 ∧ r_11 ≤ (text_4.length : Int)) ∧
 V_hasPre (text_4.drop r_11.toNat) sign_10 fun r_35 =>
 (r_35 = true →
 Len sign_10 ∧
 I64 (r_11 + (sign_10.length : Int)) ∧
 Q true (r_11 + (sign_10.length : Int))) ∧
 (r_35 = false →
 Q false r_11)

/-- (*value.reader).want: what is to be shown. -/
def V_want (text_4 : Str) (xat_5 : Int) (deep_7 : Int) (heavy_9 : Bool) (sign_10 : Str) (E : Int → Int → Prop) (Q : Int → Prop) : Prop :=
 V_take text_4 xat_5 deep_7 heavy_9 sign_10 fun r_11 r_12 =>
 ((!r_11) = true →
 V_fail text_4 r_12 deep_7 heavy_9 (1 : Int) E (
 Q r_12)) ∧
 ((!r_11) = false →
 Q r_12)

/-- value.inWord: what is to be shown. -/
def V_inWord (c_1 : Int) (Q : Bool → Prop) : Prop :=
 Q (decide ((((((97 : Int) ≤ c_1) ∧ (c_1 ≤ (122 : Int))) ∨ (((65 : Int) ≤ c_1) ∧ (c_1 ≤ (90 : Int)))) ∨ (((48 : Int) ≤ c_1) ∧ (c_1 ≤ (57 : Int)))) ∨ (c_1 = (95 : Int))))

/-- (*value.reader).word: what is to be shown. -/
def V_word (text_4 : Str) (xat_5 : Int) (deep_7 : Int) (heavy_9 : Bool) (Q : Str → Prop) : Prop :=
 VLoop (σ := Int) xat_5 fun k_28 xnext_50 =>
 VMeet (σ := Bool) (fun x_57 =>
 (x_57 = true →
 I64 (k_28 + (1 : Int)) ∧
 xnext_50 (k_28 + (1 : Int))) ∧
 (x_57 = false →
 ((0 : Int) ≤ xat_5 ∧ xat_5 ≤ k_28 ∧ k_28 ≤ (text_4.length : Int)) ∧
 Q ((text_4.take k_28.toNat).drop xat_5.toNat))) fun J_58 =>
 Len text_4 ∧
 (k_28 < (text_4.length : Int) →
 In k_28 text_4 ∧
 V_inWord (byte text_4 k_28) fun r_64 =>
 J_58 r_64) ∧
 (¬ (k_28 < (text_4.length : Int)) →
 J_58 false)

/-- (*value.reader).weighed: what is to be shown. -/
def V_weighed (text_4 : Str) (xat_5 : Int) (deep_7 : Int) (heavy_9 : Bool) (v_10 : Val) (Q : Val → Bool → Prop) : Prop :=
 VMeet (σ := Bool) (fun c_18 =>
 Q v_10 c_18) fun J_19 =>
 (heavy_9 = true →
 J_19 true) ∧
 (heavy_9 = false →
 J_19 v_10.isNil)

/-- value.Reserved: what is to be shown. -/
def V_Reserved (s_1 : Str) (Q : Bool → Prop) : Prop :=
 VMeet (σ := Bool) (fun x_53 =>
 (x_53 = true →
 Q true) ∧
 (x_53 = false →
 Q false)) fun J_54 =>
 (s_1 = ([109, 111, 100, 117, 108, 101] : Str) →
 J_54 (decide (s_1 = ([109, 111, 100, 117, 108, 101] : Str)))) ∧
 (¬ (s_1 = ([109, 111, 100, 117, 108, 101] : Str)) →
 (s_1 = ([99, 111, 110, 115, 116, 97, 110, 116] : Str) →
 J_54 (decide (s_1 = ([99, 111, 110, 115, 116, 97, 110, 116] : Str)))) ∧
 (¬ (s_1 = ([99, 111, 110, 115, 116, 97, 110, 116] : Str)) →
 (s_1 = ([97, 116, 111, 109, 115] : Str) →
 J_54 (decide (s_1 = ([97, 116, 111, 109, 115] : Str)))) ∧
 (¬ (s_1 = ([97, 116, 111, 109, 115] : Str)) →
 (s_1 = ([115, 121, 109, 109, 101, 116, 114, 105, 99] : Str) →
 J_54 (decide (s_1 = ([115, 121, 109, 109, 101, 116, 114, 105, 99] : Str)))) ∧
 (¬ (s_1 = ([115, 121, 109, 109, 101, 116, 114, 105, 99] : Str)) →
 (s_1 = ([118, 97, 114, 105, 97, 98, 108, 101] : Str) →
 J_54 (decide (s_1 = ([118, 97, 114, 105, 97, 98, 108, 101] : Str)))) ∧
 (¬ (s_1 = ([118, 97, 114, 105, 97, 98, 108, 101] : Str)) →
 (s_1 = ([100, 101, 102, 105, 110, 101] : Str) →
 J_54 (decide (s_1 = ([100, 101, 102, 105, 110, 101] : Str)))) ∧
 (¬ (s_1 = ([100, 101, 102, 105, 110, 101] : Str)) →
 (s_1 = ([105, 110, 105, 116] : Str) →
 J_54 (decide (s_1 = ([105, 110, 105, 116] : Str)))) ∧
 (¬ (s_1 = ([105, 110, 105, 116] : Str)) →
 (s_1 = ([97, 99, 116, 105, 111, 110] : Str) →
 J_54 (decide (s_1 = ([97, 99, 116, 105, 111, 110] : Str)))) ∧
 (¬ (s_1 = ([97, 99, 116, 105, 111, 110] : Str)) →
 (s_1 = ([102, 97, 105, 114] : Str) →
 J_54 (decide (s_1 = ([102, 97, 105, 114] : Str)))) ∧
 (¬ (s_1 = ([102, 97, 105, 114] : Str)) →
 (s_1 = ([119, 101, 97, 107] : Str) →
 J_54 (decide (s_1 = ([119, 101, 97, 107] : Str)))) ∧
 (¬ (s_1 = ([119, 101, 97, 107] : Str)) →
 (s_1 = ([115, 116, 114, 111, 110, 103] : Str) →
 J_54 (decide (s_1 = ([115, 116, 114, 111, 110, 103] : Str)))) ∧
 (¬ (s_1 = ([115, 116, 114, 111, 110, 103] : Str)) →
 (s_1 = ([105, 110, 118, 97, 114, 105, 97, 110, 116] : Str) →
 J_54 (decide (s_1 = ([105, 110, 118, 97, 114, 105, 97, 110, 116] : Str)))) ∧
 (¬ (s_1 = ([105, 110, 118, 97, 114, 105, 97, 110, 116] : Str)) →
 (s_1 = ([112, 114, 111, 112, 101, 114, 116, 121] : Str) →
 J_54 (decide (s_1 = ([112, 114, 111, 112, 101, 114, 116, 121] : Str)))) ∧
 (¬ (s_1 = ([112, 114, 111, 112, 101, 114, 116, 121] : Str)) →
 (s_1 = ([97, 110, 100] : Str) →
 J_54 (decide (s_1 = ([97, 110, 100] : Str)))) ∧
 (¬ (s_1 = ([97, 110, 100] : Str)) →
 (s_1 = ([111, 114] : Str) →
 J_54 (decide (s_1 = ([111, 114] : Str)))) ∧
 (¬ (s_1 = ([111, 114] : Str)) →
 (s_1 = ([110, 111, 116] : Str) →
 J_54 (decide (s_1 = ([110, 111, 116] : Str)))) ∧
 (¬ (s_1 = ([110, 111, 116] : Str)) →
 (s_1 = ([105, 109, 112, 108, 105, 101, 115] : Str) →
 J_54 (decide (s_1 = ([105, 109, 112, 108, 105, 101, 115] : Str)))) ∧
 (¬ (s_1 = ([105, 109, 112, 108, 105, 101, 115] : Str)) →
 (s_1 = ([105, 102, 102] : Str) →
 J_54 (decide (s_1 = ([105, 102, 102] : Str)))) ∧
 (¬ (s_1 = ([105, 102, 102] : Str)) →
 (s_1 = ([105, 110] : Str) →
 J_54 (decide (s_1 = ([105, 110] : Str)))) ∧
 (¬ (s_1 = ([105, 110] : Str)) →
 (s_1 = ([117, 110, 105, 111, 110] : Str) →
 J_54 (decide (s_1 = ([117, 110, 105, 111, 110] : Str)))) ∧
 (¬ (s_1 = ([117, 110, 105, 111, 110] : Str)) →
 (s_1 = ([105, 110, 116, 101, 114] : Str) →
 J_54 (decide (s_1 = ([105, 110, 116, 101, 114] : Str)))) ∧
 (¬ (s_1 = ([105, 110, 116, 101, 114] : Str)) →
 (s_1 = ([109, 105, 110, 117, 115] : Str) →
 J_54 (decide (s_1 = ([109, 105, 110, 117, 115] : Str)))) ∧
 (¬ (s_1 = ([109, 105, 110, 117, 115] : Str)) →
 (s_1 = ([115, 117, 98, 115, 101, 116] : Str) →
 J_54 (decide (s_1 = ([115, 117, 98, 115, 101, 116] : Str)))) ∧
 (¬ (s_1 = ([115, 117, 98, 115, 101, 116] : Str)) →
 (s_1 = ([112, 111, 119, 101, 114, 115, 101, 116] : Str) →
 J_54 (decide (s_1 = ([112, 111, 119, 101, 114, 115, 101, 116] : Str)))) ∧
 (¬ (s_1 = ([112, 111, 119, 101, 114, 115, 101, 116] : Str)) →
 (s_1 = ([102, 108, 97, 116, 116, 101, 110] : Str) →
 J_54 (decide (s_1 = ([102, 108, 97, 116, 116, 101, 110] : Str)))) ∧
 (¬ (s_1 = ([102, 108, 97, 116, 116, 101, 110] : Str)) →
 (s_1 = ([100, 111, 109, 97, 105, 110] : Str) →
 J_54 (decide (s_1 = ([100, 111, 109, 97, 105, 110] : Str)))) ∧
 (¬ (s_1 = ([100, 111, 109, 97, 105, 110] : Str)) →
 (s_1 = ([117, 110, 99, 104, 97, 110, 103, 101, 100] : Str) →
 J_54 (decide (s_1 = ([117, 110, 99, 104, 97, 110, 103, 101, 100] : Str)))) ∧
 (¬ (s_1 = ([117, 110, 99, 104, 97, 110, 103, 101, 100] : Str)) →
 (s_1 = ([101, 110, 97, 98, 108, 101, 100] : Str) →
 J_54 (decide (s_1 = ([101, 110, 97, 98, 108, 101, 100] : Str)))) ∧
 (¬ (s_1 = ([101, 110, 97, 98, 108, 101, 100] : Str)) →
 (s_1 = ([97, 108, 119, 97, 121, 115] : Str) →
 J_54 (decide (s_1 = ([97, 108, 119, 97, 121, 115] : Str)))) ∧
 (¬ (s_1 = ([97, 108, 119, 97, 121, 115] : Str)) →
 (s_1 = ([101, 118, 101, 110, 116, 117, 97, 108, 108, 121] : Str) →
 J_54 (decide (s_1 = ([101, 118, 101, 110, 116, 117, 97, 108, 108, 121] : Str)))) ∧
 (¬ (s_1 = ([101, 118, 101, 110, 116, 117, 97, 108, 108, 121] : Str)) →
 (s_1 = ([117, 110, 116, 105, 108] : Str) →
 J_54 (decide (s_1 = ([117, 110, 116, 105, 108] : Str)))) ∧
 (¬ (s_1 = ([117, 110, 116, 105, 108] : Str)) →
 (s_1 = ([108, 101, 97, 100, 115, 116, 111] : Str) →
 J_54 (decide (s_1 = ([108, 101, 97, 100, 115, 116, 111] : Str)))) ∧
 (¬ (s_1 = ([108, 101, 97, 100, 115, 116, 111] : Str)) →
 (s_1 = ([99, 104, 111, 111, 115, 101] : Str) →
 J_54 (decide (s_1 = ([99, 104, 111, 111, 115, 101] : Str)))) ∧
 (¬ (s_1 = ([99, 104, 111, 111, 115, 101] : Str)) →
 (s_1 = ([97, 108, 108] : Str) →
 J_54 (decide (s_1 = ([97, 108, 108] : Str)))) ∧
 (¬ (s_1 = ([97, 108, 108] : Str)) →
 (s_1 = ([115, 111, 109, 101] : Str) →
 J_54 (decide (s_1 = ([115, 111, 109, 101] : Str)))) ∧
 (¬ (s_1 = ([115, 111, 109, 101] : Str)) →
 (s_1 = ([101, 97, 99, 104] : Str) →
 J_54 (decide (s_1 = ([101, 97, 99, 104] : Str)))) ∧
 (¬ (s_1 = ([101, 97, 99, 104] : Str)) →
 (s_1 = ([116, 104, 111, 115, 101] : Str) →
 J_54 (decide (s_1 = ([116, 104, 111, 115, 101] : Str)))) ∧
 (¬ (s_1 = ([116, 104, 111, 115, 101] : Str)) →
 (s_1 = ([102, 117, 110] : Str) →
 J_54 (decide (s_1 = ([102, 117, 110] : Str)))) ∧
 (¬ (s_1 = ([102, 117, 110] : Str)) →
 (s_1 = ([105, 102] : Str) →
 J_54 (decide (s_1 = ([105, 102] : Str)))) ∧
 (¬ (s_1 = ([105, 102] : Str)) →
 (s_1 = ([116, 104, 101, 110] : Str) →
 J_54 (decide (s_1 = ([116, 104, 101, 110] : Str)))) ∧
 (¬ (s_1 = ([116, 104, 101, 110] : Str)) →
 (s_1 = ([101, 108, 115, 101] : Str) →
 J_54 (decide (s_1 = ([101, 108, 115, 101] : Str)))) ∧
 (¬ (s_1 = ([101, 108, 115, 101] : Str)) →
 (s_1 = ([108, 101, 116] : Str) →
 J_54 (decide (s_1 = ([108, 101, 116] : Str)))) ∧
 (¬ (s_1 = ([108, 101, 116] : Str)) →
 (s_1 = ([110, 105, 108] : Str) →
 J_54 (decide (s_1 = ([110, 105, 108] : Str)))) ∧
 (¬ (s_1 = ([110, 105, 108] : Str)) →
 (s_1 = ([116, 114, 117, 101] : Str) →
 J_54 (decide (s_1 = ([116, 114, 117, 101] : Str)))) ∧
 (¬ (s_1 = ([116, 114, 117, 101] : Str)) →
 (s_1 = ([102, 97, 108, 115, 101] : Str) →
 J_54 (decide (s_1 = ([102, 97, 108, 115, 101] : Str)))) ∧
 (¬ (s_1 = ([102, 97, 108, 115, 101] : Str)) →
 (s_1 = ([115, 105, 122, 101] : Str) →
 J_54 (decide (s_1 = ([115, 105, 122, 101] : Str)))) ∧
 (¬ (s_1 = ([115, 105, 122, 101] : Str)) →
 (s_1 = ([108, 101, 110] : Str) →
 J_54 (decide (s_1 = ([108, 101, 110] : Str)))) ∧
 (¬ (s_1 = ([108, 101, 110] : Str)) →
 (s_1 = ([104, 101, 97, 100] : Str) →
 J_54 (decide (s_1 = ([104, 101, 97, 100] : Str)))) ∧
 (¬ (s_1 = ([104, 101, 97, 100] : Str)) →
 (s_1 = ([116, 97, 105, 108] : Str) →
 J_54 (decide (s_1 = ([116, 97, 105, 108] : Str)))) ∧
 (¬ (s_1 = ([116, 97, 105, 108] : Str)) →
 (s_1 = ([97, 112, 112, 101, 110, 100] : Str) →
 J_54 (decide (s_1 = ([97, 112, 112, 101, 110, 100] : Str)))) ∧
 (¬ (s_1 = ([97, 112, 112, 101, 110, 100] : Str)) →
 (s_1 = ([118, 97, 108, 117, 101, 115] : Str) →
 J_54 (decide (s_1 = ([118, 97, 108, 117, 101, 115] : Str)))) ∧
 (¬ (s_1 = ([118, 97, 108, 117, 101, 115] : Str)) →
 J_54 (decide (s_1 = ([115, 101, 113, 115] : Str))))))))))))))))))))))))))))))))))))))))))))))))))))))

/-- (*value.reader).number: what is to be shown. -/
def V_number (text_4 : Str) (xat_5 : Int) (deep_7 : Int) (heavy_9 : Bool) (w_10 : Str) (minus_11 : Bool) (E : Int → Int → Prop) (Q : Val → Int → Prop) : Prop :=
 Len w_10 ∧
 VLoop (σ := Int) (0 : Int) fun x_71 xnext_131 =>
 (x_71 < (w_10.length : Int) →
 VMeet (σ := Unit) (fun _ =>
 xnext_131 (IntKind.i64.wrap (x_71 + (1 : Int)))) fun J_159 =>
 VMeet (σ := Bool) (fun x_169 =>
 (x_169 = true →
 V_fail text_4 xat_5 deep_7 heavy_9 (1 : Int) E (
 J_159 ())) ∧
 (x_169 = false →
 J_159 ())) fun J_170 =>
 In x_71 w_10 ∧
 ((byte w_10 x_71) < (48 : Int) →
 J_170 true) ∧
 (¬ ((byte w_10 x_71) < (48 : Int)) →
 In x_71 w_10 ∧
 ((57 : Int) < (byte w_10 x_71) →
 J_170 true) ∧
 (¬ ((57 : Int) < (byte w_10 x_71)) →
 In (0 : Int) w_10 ∧
 ((byte w_10 (0 : Int)) = (48 : Int) →
 ((0 : Int) < x_71 →
 J_170 true) ∧
 (¬ ((0 : Int) < x_71) →
 J_170 minus_11)) ∧
 (¬ ((byte w_10 (0 : Int)) = (48 : Int)) →
 J_170 false)))) ∧
 (¬ (x_71 < (w_10.length : Int)) →
 V_ParseUint w_10 (10 : Int) (64 : Int) fun r_187 r_189 =>
 VMeet (σ := Unit) (fun _ =>
 Len w_10 ∧
 (minus_11 = true →
 V_Number (wneg (IntKind.i64.wrap r_187)) fun r_228 =>
 Q r_228 (IntKind.i64.wrap ((IntKind.i64.wrap (xat_5 + (w_10.length : Int))) + (1 : Int)))) ∧
 (minus_11 = false →
 V_Number (IntKind.i64.wrap r_187) fun r_234 =>
 Q r_234 (IntKind.i64.wrap (xat_5 + (w_10.length : Int))))) fun J_209 =>
 VMeet (σ := Bool) (fun x_214 =>
 (x_214 = true →
 V_fail text_4 xat_5 deep_7 heavy_9 (5 : Int) E (
 J_209 ())) ∧
 (x_214 = false →
 J_209 ())) fun J_215 =>
 ((!r_189) = true →
 J_215 true) ∧
 ((!r_189) = false →
 ((9223372036854775807 : Int) < r_187 →
 (minus_11 = true →
 J_215 (!(decide (r_187 = (9223372036854775808 : Int))))) ∧
 (minus_11 = false →
 J_215 (!false))) ∧
 (¬ ((9223372036854775807 : Int) < r_187) →
 J_215 false)))

/-- (*value.reader).single: what is to be shown. -/
def V_single (text_4 : Str) (xat_5 : Int) (deep_7 : Int) (heavy_9 : Bool) (E : Int → Int → Prop) (Q : Val → Int → Prop) : Prop :=
 ((0 : Int) ≤ xat_5 ∧ xat_5 ≤ (text_4.length : Int)) ∧
 VMeet (σ := Unit) (fun _ =>
 V_hasPre (text_4.drop xat_5.toNat) ([45] : Str) fun r_254 =>
 VMeet (σ := Int) (fun c_259 =>
 V_word text_4 c_259 deep_7 heavy_9 fun r_266 =>
 VMeet (σ := Int) (fun c_271 =>
 VMeet (σ := Bool) (fun x_282 =>
 (x_282 = true →
 V_number text_4 c_271 deep_7 heavy_9 r_266 r_254 E fun r_289 r_292 =>
 Q r_289 r_292) ∧
 (x_282 = false →
 VMeet (σ := Unit) (fun _ =>
 (r_266 = ([110, 105, 108] : Str) →
 Len r_266 ∧
 I64 (c_271 + (r_266.length : Int)) ∧
 Q Val.nil (c_271 + (r_266.length : Int))) ∧
 (¬ (r_266 = ([110, 105, 108] : Str)) →
 VMeet (σ := Bool) (fun x_341 =>
 (x_341 = true →
 Len r_266 ∧
 I64 (c_271 + (r_266.length : Int)) ∧
 V_Truth (decide (r_266 = ([116, 114, 117, 101] : Str))) fun r_348 =>
 Q r_348 (c_271 + (r_266.length : Int))) ∧
 (x_341 = false →
 VMeet (σ := Unit) (fun _ =>
 Len r_266 ∧
 I64 (c_271 + (r_266.length : Int)) ∧
 V_Atom r_266 fun r_395 =>
 Q r_395 (c_271 + (r_266.length : Int))) fun J_372 =>
 V_Reserved r_266 fun r_374 =>
 (r_374 = true →
 V_fail text_4 c_271 deep_7 heavy_9 (1 : Int) E (
 J_372 ())) ∧
 (r_374 = false →
 Len r_266 ∧
 ((16 : Int) < (r_266.length : Int) →
 V_fail text_4 c_271 deep_7 heavy_9 (5 : Int) E (
 J_372 ())) ∧
 (¬ ((16 : Int) < (r_266.length : Int)) →
 J_372 ())))) fun J_342 =>
 (r_266 = ([116, 114, 117, 101] : Str) →
 J_342 (decide (r_266 = ([116, 114, 117, 101] : Str)))) ∧
 (¬ (r_266 = ([116, 114, 117, 101] : Str)) →
 J_342 (decide (r_266 = ([102, 97, 108, 115, 101] : Str)))))) fun J_318 =>
 VMeet (σ := Bool) (fun x_323 =>
 (x_323 = true →
 V_fail text_4 c_271 deep_7 heavy_9 (1 : Int) E (
 J_318 ())) ∧
 (x_323 = false →
 J_318 ())) fun J_324 =>
 (r_266 = ([] : Str) →
 J_324 true) ∧
 (¬ (r_266 = ([] : Str)) →
 (r_254 = true →
 J_324 true) ∧
 (r_254 = false →
 In (0 : Int) r_266 ∧
 J_324 (decide ((byte r_266 (0 : Int)) = (95 : Int))))))) fun J_283 =>
 (r_266 ≠ ([] : Str) →
 In (0 : Int) r_266 ∧
 ((48 : Int) ≤ (byte r_266 (0 : Int)) →
 In (0 : Int) r_266 ∧
 J_283 (decide ((byte r_266 (0 : Int)) ≤ (57 : Int)))) ∧
 (¬ ((48 : Int) ≤ (byte r_266 (0 : Int))) →
 J_283 false)) ∧
 (¬ (r_266 ≠ ([] : Str)) →
 J_283 false)) fun J_273 =>
 (r_254 = true →
 I64 (c_259 - (1 : Int)) ∧
 J_273 (c_259 - (1 : Int))) ∧
 (r_254 = false →
 J_273 c_259)) fun J_261 =>
 (r_254 = true →
 I64 (xat_5 + (1 : Int)) ∧
 J_261 (xat_5 + (1 : Int))) ∧
 (r_254 = false →
 J_261 xat_5)) fun J_132 =>
 V_hasPre (text_4.drop xat_5.toNat) ([34] : Str) fun r_134 =>
 (r_134 = true →
 I64 (xat_5 + (1 : Int)) ∧
 VLoop (σ := Int) (xat_5 + (1 : Int)) fun k_172 xnext_210 =>
 VMeet (σ := Bool) (fun x_219 =>
 (x_219 = true →
 In k_172 text_4 ∧
 ((byte text_4 k_172) = (34 : Int) →
 I64 (xat_5 + (1 : Int)) ∧
 ((0 : Int) ≤ (xat_5 + (1 : Int)) ∧ (xat_5 + (1 : Int)) ≤ k_172 ∧ k_172 ≤ (text_4.length : Int)) ∧
 I64 (k_172 + (1 : Int)) ∧
 V_Text ((text_4.take k_172.toNat).drop (xat_5 + (1 : Int)).toNat) fun r_236 =>
 Q r_236 (k_172 + (1 : Int))) ∧
 (¬ ((byte text_4 k_172) = (34 : Int)) →
 I64 (k_172 + (1 : Int)) ∧
 xnext_210 (k_172 + (1 : Int)))) ∧
 (x_219 = false →
 V_fail text_4 xat_5 deep_7 heavy_9 (1 : Int) E (
 J_132 ()))) fun J_220 =>
 Len text_4 ∧
 (k_172 < (text_4.length : Int) →
 In k_172 text_4 ∧
 ((32 : Int) ≤ (byte text_4 k_172) →
 In k_172 text_4 ∧
 ((byte text_4 k_172) ≤ (126 : Int) →
 In k_172 text_4 ∧
 J_220 (decide ((byte text_4 k_172) ≠ (92 : Int)))) ∧
 (¬ ((byte text_4 k_172) ≤ (126 : Int)) →
 J_220 false)) ∧
 (¬ ((32 : Int) ≤ (byte text_4 k_172)) →
 J_220 false)) ∧
 (¬ (k_172 < (text_4.length : Int)) →
 J_220 false)) ∧
 (r_134 = false →
 J_132 ())

/-- (*value.reader).value$1: what is to be shown. -/
def V_value1 (G : Str → Int → Int → Bool → (Int → Int → Prop) → (Val → Int → Int → Bool → Prop) → Prop) (c_1_4 : List (Val)) (text_15 : Str) (xat_16 : Int) (deep_18 : Int) (heavy_20 : Bool) (E : Int → Int → Prop) (Q : (List (Val)) → Int → Int → Bool → Prop) : Prop :=
 G text_15 xat_16 deep_18 heavy_20 E fun r_25 r_28 r_30 r_32 =>
 Room (c_1_4.length + ([r_25]).length) 16 ∧
 Q (c_1_4 ++ ([r_25])) r_28 r_30 r_32

/-- (*value.reader).value$2: what is to be shown. -/
def V_value2 (G : Str → Int → Int → Bool → (Int → Int → Prop) → (Val → Int → Int → Bool → Prop) → Prop) (c_1_4 : List (Val)) (text_15 : Str) (xat_16 : Int) (deep_18 : Int) (heavy_20 : Bool) (c_25_28 : List (Val)) (E : Int → Int → Prop) (Q : (List (Val)) → Int → Int → Bool → (List (Val)) → Prop) : Prop :=
 G text_15 xat_16 deep_18 heavy_20 E fun r_38 r_41 r_43 r_45 =>
 Room (c_1_4.length + ([r_38]).length) 16 ∧
 V_want text_15 r_41 r_43 r_45 ([58] : Str) E fun r_62 =>
 V_value1 G c_25_28 text_15 r_62 r_43 r_45 E fun c_70 r_74 r_76 r_78 =>
 Q (c_1_4 ++ ([r_38])) r_74 r_76 r_78 c_70

/-- (*value.reader).list: what is to be shown. -/
def V_list (G : Str → Int → Int → Bool → (Int → Int → Prop) → (Val → Int → Int → Bool → Prop) → Prop) (text_4 : Str) (xat_5 : Int) (deep_7 : Int) (heavy_9 : Bool) (last_10 : Str) (c_12_15 : List (Val)) (E : Int → Int → Prop) (Q : Int → Int → Bool → (List (Val)) → Prop) : Prop :=
 VMeet (σ := Int) (fun c_34 =>
 Len last_10 ∧
 I64 (xat_5 + (last_10.length : Int)) ∧
 VMeet (σ := Int × Int × Bool × (List (Val))) (fun (c_189, c_191, c_193, c_195) =>
 I64 (c_191 - (1 : Int)) ∧
 Q c_189 (c_191 - (1 : Int)) c_193 c_195) fun J_199 =>
 V_take text_4 (xat_5 + (last_10.length : Int)) c_34 heavy_9 last_10 fun r_201 r_202 =>
 ((!r_201) = true →
 V_value1 G c_12_15 text_4 r_202 c_34 heavy_9 E fun c_205 r_209 r_211 r_213 =>
 VLoop (σ := Int × Int × Bool × (List (Val))) (r_209, r_211, r_213, c_205) fun (c_270, c_272, c_274, c_276) xnext_304 =>
 V_take text_4 c_270 c_272 c_274 ([44] : Str) fun r_305 r_306 =>
 (r_305 = true →
 V_value1 G c_276 text_4 r_306 c_272 c_274 E fun c_309 r_313 r_315 r_317 =>
 xnext_304 (r_313, r_315, r_317, c_309)) ∧
 (r_305 = false →
 V_want text_4 r_306 c_272 c_274 last_10 E fun r_326 =>
 J_199 (r_326, c_272, c_274, c_276))) ∧
 ((!r_201) = false →
 J_199 (r_202, c_34, heavy_9, c_12_15))) fun J_36 =>
 I64 (deep_7 + (1 : Int)) ∧
 ((24 : Int) < (deep_7 + (1 : Int)) →
 V_fail text_4 xat_5 (deep_7 + (1 : Int)) heavy_9 (6 : Int) E (
 J_36 (deep_7 + (1 : Int)))) ∧
 (¬ ((24 : Int) < (deep_7 + (1 : Int))) →
 J_36 (deep_7 + (1 : Int)))

/-- (*value.reader).pairs: what is to be shown. -/
def V_pairs (G : Str → Int → Int → Bool → (Int → Int → Prop) → (Val → Int → Int → Bool → Prop) → Prop) (text_4 : Str) (xat_5 : Int) (deep_7 : Int) (heavy_9 : Bool) (c_11_14 : List (Val)) (c_27_30 : List (Val)) (E : Int → Int → Prop) (Q : Int → Int → Bool → (List (Val)) → (List (Val)) → Prop) : Prop :=
 VMeet (σ := Int) (fun c_46 =>
 I64 (xat_5 + (1 : Int)) ∧
 V_value2 G c_11_14 text_4 (xat_5 + (1 : Int)) c_46 heavy_9 c_27_30 E fun c_62 r_66 r_68 r_70 c_71 =>
 VLoop (σ := Int × Int × Bool × (List (Val)) × (List (Val))) (r_66, r_68, r_70, c_71, c_62) fun (c_142, c_144, c_146, c_148, c_153) xnext_186 =>
 V_take text_4 c_142 c_144 c_146 ([44] : Str) fun r_187 r_188 =>
 (r_187 = true →
 V_value2 G c_153 text_4 r_188 c_144 c_146 c_148 E fun c_191 r_195 r_197 r_199 c_200 =>
 xnext_186 (r_195, r_197, r_199, c_200, c_191)) ∧
 (r_187 = false →
 V_want text_4 r_188 c_144 c_146 ([93] : Str) E fun r_213 =>
 I64 (c_144 - (1 : Int)) ∧
 Q r_213 (c_144 - (1 : Int)) c_146 c_153 c_148)) fun J_48 =>
 I64 (deep_7 + (1 : Int)) ∧
 ((24 : Int) < (deep_7 + (1 : Int)) →
 V_fail text_4 xat_5 (deep_7 + (1 : Int)) heavy_9 (6 : Int) E (
 J_48 (deep_7 + (1 : Int)))) ∧
 (¬ ((24 : Int) < (deep_7 + (1 : Int))) →
 J_48 (deep_7 + (1 : Int)))

/-- (*value.reader).value: what is to be shown, so many calls deep. -/
def V_value : Nat → Str → Int → Int → Bool → (Int → Int → Prop) → (Val → Int → Int → Bool → Prop) → Prop
 | 0, _, _, _, _, _, _ => False
 | m0 + 1, text_4, xat_5, deep_7, heavy_9, E, Q =>
 V_skip text_4 xat_5 deep_7 heavy_9 fun r_14 =>
 ((0 : Int) ≤ r_14 ∧ r_14 ≤ (text_4.length : Int)) ∧
 V_hasPre (text_4.drop r_14.toNat) ([123] : Str) fun r_26 =>
 (r_26 = true →
 V_list (V_value m0) text_4 r_14 deep_7 heavy_9 ([125] : Str) ([] : List (Val)) E fun r_28 r_30 r_32 c_33 =>
 V_SetOf c_33 fun r_49 =>
 V_weighed text_4 r_28 r_30 r_32 r_49 fun r_54 r_57 =>
 Q r_54 r_28 r_30 r_57) ∧
 (r_26 = false →
 V_hasPre (text_4.drop r_14.toNat) ([60, 60] : Str) fun r_61 =>
 (r_61 = true →
 V_list (V_value m0) text_4 r_14 deep_7 heavy_9 ([62, 62] : Str) ([] : List (Val)) E fun r_63 r_65 r_67 c_68 =>
 V_SequenceOf c_68 fun r_87 =>
 V_weighed text_4 r_63 r_65 r_67 r_87 fun r_92 r_95 =>
 Q r_92 r_63 r_65 r_95) ∧
 (r_61 = false →
 V_hasPre (text_4.drop r_14.toNat) ([91] : Str) fun r_99 =>
 (r_99 = true →
 V_pairs (V_value m0) text_4 r_14 deep_7 heavy_9 ([] : List (Val)) ([] : List (Val)) E fun r_101 r_103 r_105 c_106 c_110 =>
 V_FunctionOf c_106 c_110 fun r_135 =>
 V_weighed text_4 r_101 r_103 r_105 r_135 fun r_140 r_143 =>
 Q r_140 r_101 r_103 r_143) ∧
 (r_99 = false →
 V_single text_4 r_14 deep_7 heavy_9 E fun r_147 r_150 =>
 Q r_147 r_150 deep_7 heavy_9)))

/-- value.Read: what is to be shown. -/
def V_Read (text : Str) (Q : Val → Int → Option Int → Prop) : Prop := Len text ∧
 (4000 < (text.length : Int) → Q .nil 0 (some 6)) ∧ (¬ 4000 < (text.length : Int) → ∃ m, V_value m text 0 0 false (fun e a => I64 a ∧ Q .nil a (some e)) fun v at_ deep heavy =>
 V_skip text at_ deep heavy fun at' => (at' < (text.length : Int) → Q .nil at' (some 1)) ∧ (¬ at' < (text.length : Int) → (heavy = true → Q .nil 0 (some 6)) ∧ (heavy = false → Q v 0 none)))

/-- sextantlaw1.lives: what is to be shown. -/
def V_lives  (Q : Bool → Prop) : Prop :=
 V_Read ([123, 50, 44, 32, 49, 125] : Str) fun r_1 r_4 r_6 =>
 V_Show r_1 fun r_11 =>
 V_Weight r_1 fun r_13 =>
 V_Read ([110, 105, 108] : Str) fun r_16 r_19 r_21 =>
 ∃ mf, V_Compare mf r_1 r_16 fun r_26 =>
 VMeet (σ := Bool) (fun x_34 =>
 Q x_34) fun J_35 =>
 (r_6 = none →
 (r_11 = ([123, 49, 44, 32, 50, 125] : Str) →
 (r_13 = (3 : Int) →
 J_35 (decide (r_26 = (1 : Int)))) ∧
 (¬ (r_13 = (3 : Int)) →
 J_35 false)) ∧
 (¬ (r_11 = ([123, 49, 44, 32, 50, 125] : Str)) →
 J_35 false)) ∧
 (¬ (r_6 = none) →
 J_35 false)

/-- sextantlaw1.ValueSorts: what is to be shown. -/
def V_ValueSorts (a_1 : Str) (b_2 : Str) (c_3 : Str) (Q : Bool → Prop) : Prop :=
 V_lives  fun r_4 =>
 V_Read a_1 fun r_6 r_9 r_11 =>
 V_Read b_2 fun r_16 r_19 r_21 =>
 V_Read c_3 fun r_26 r_29 r_31 =>
 ∃ mf, V_Compare mf r_6 r_16 fun r_36 =>
 ∃ mf, V_Compare mf r_16 r_26 fun r_39 =>
 ∃ mf, V_Compare mf r_6 r_26 fun r_42 =>
 ∃ mf, V_Compare mf r_16 r_6 fun r_45 =>
 VMeet (σ := Bool) (fun x_55 =>
 (x_55 = true →
 Q false) ∧
 (x_55 = false →
 ((((r_36 ≤ (0 : Int)) ∧ (r_39 ≤ (0 : Int))) ∧ ((0 : Int) < r_42)) ∨ ((((0 : Int) ≤ r_36) ∧ ((0 : Int) ≤ r_39)) ∧ (r_42 < (0 : Int))) →
 Q false) ∧
 (¬ ((((r_36 ≤ (0 : Int)) ∧ (r_39 ≤ (0 : Int))) ∧ ((0 : Int) < r_42)) ∨ ((((0 : Int) ≤ r_36) ∧ ((0 : Int) ≤ r_39)) ∧ (r_42 < (0 : Int)))) →
 V_Show r_6 fun r_92 =>
 V_Show r_16 fun r_94 =>
 Q ((decide (r_36 = (0 : Int))) == (decide (r_92 = r_94)))))) fun J_56 =>
 ((!r_4) = true →
 J_56 true) ∧
 ((!r_4) = false →
 I64 (-r_45) ∧
 (r_36 ≠ (-r_45) →
 J_56 true) ∧
 (¬ (r_36 ≠ (-r_45)) →
 (r_36 < (-1) →
 J_56 true) ∧
 (¬ (r_36 < (-1)) →
 J_56 (decide ((1 : Int) < r_36)))))

/-- sextantlaw1.ValueBack: what is to be shown. -/
def V_ValueBack (text_1 : Str) (Q : Bool → Prop) : Prop :=
 V_lives  fun r_2 =>
 ((!r_2) = true →
 Q false) ∧
 ((!r_2) = false →
 V_Read text_1 fun r_4 r_7 r_9 =>
 (r_9 ≠ none →
 Q true) ∧
 (¬ (r_9 ≠ none) →
 V_Show r_4 fun r_14 =>
 Len r_14 ∧
 ((4000 : Int) < (r_14.length : Int) →
 Q true) ∧
 (¬ ((4000 : Int) < (r_14.length : Int)) →
 V_Read r_14 fun r_18 r_21 r_23 =>
 ∃ mf, V_Compare mf r_4 r_18 fun r_28 =>
 V_Show r_18 fun r_31 =>
 V_Weight r_4 fun r_33 =>
 V_Weight r_18 fun r_36 =>
 VMeet (σ := Bool) (fun x_48 =>
 Q x_48) fun J_49 =>
 (r_23 = none →
 (r_28 = (0 : Int) →
 (r_14 = r_31 →
 (r_33 = r_36 →
 ((1 : Int) ≤ r_33 →
 J_49 (decide (r_33 ≤ (1024 : Int)))) ∧
 (¬ ((1 : Int) ≤ r_33) →
 J_49 false)) ∧
 (¬ (r_33 = r_36) →
 J_49 false)) ∧
 (¬ (r_14 = r_31) →
 J_49 false)) ∧
 (¬ (r_28 = (0 : Int)) →
 J_49 false)) ∧
 (¬ (r_23 = none) →
 J_49 false))))

end Go.Vc
