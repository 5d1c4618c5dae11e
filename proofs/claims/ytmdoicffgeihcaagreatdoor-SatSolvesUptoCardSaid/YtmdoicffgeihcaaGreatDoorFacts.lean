/- The closed facts of the program that the walks use. -/
import Derived.Test.YtmdoicffgeihcaaGreatDoorRows
import Derived.Test.YtmdoicffgeihcaaGreatDoorUns
import Derived.Test.YtmdoicffgeihcaaGreatDoorAut
namespace Go.Proofs.YtmdoicffgeihcaaGreatDoor
theorem Tryz.mixed : Tryz.prog.follows .mixedOrders = true := by kernel_rfl
theorem Tryz.info3 : (Tryz.prog.info? 3).map (fun i => (i.zero, i.size, i.bytes)) = some (some (.int .i64 0), 1, 8) := by kernel_rfl
theorem Tryz.info4 : (Tryz.prog.info? 4).map (fun i => (i.zero, i.size, i.bytes)) = some (some (.bool false), 1, 1) := by kernel_rfl
theorem Tryz.info23 : (Tryz.prog.info? 23).map (fun i => (i.zero, i.size, i.bytes)) = some (some (.slice none 0 0), 1, 24) := by kernel_rfl
theorem Tryz.info50 : (Tryz.prog.info? 50).map (fun i => (i.zero, i.size, i.bytes)) = some (some (.agg #[.bool false, .slice none 0 0]), 2, 32) := by kernel_rfl
theorem Tryz.info58 : (Tryz.prog.info? 58).map (fun i => (i.zero, i.size, i.bytes)) = some (some (.float .f64 0), 1, 8) := by kernel_rfl
theorem Tryz.concrete46 : Tryz.prog.concrete 46 = true := by kernel_rfl
theorem Tryz.concrete72 : Tryz.prog.concrete 72 = true := by kernel_rfl
theorem Tryz.iface32 : Tryz.prog.underlying 32 = some (.interface (Tryz.prog.methodsAt 32)) := by kernel_rfl
open Go.Vc
theorem Tryz.key3 : KeyOK Tryz.prog 3 kInt := KeyOK.int Tryz.underlying3
section
open Go.Vc Go
variable {ops : Array Go.Oper} {Q : Go.Exit → Go.Act → Go.World → Prop} {n : Nat} {l : List (Nat × Go.Value)} {rest : List Go.Oper} {o : Go.Oper} {w : Go.World} {C : Go.World → Prop} {d : Nat} {v : Go.Value}
theorem XE (he : Exv Tryz.prog n l C o v := by
    first
    | ((with_reducible apply ex_move) <;> first | exact rfl)
    | ((with_reducible apply ex_assign) <;> first | exact rfl)
    | ((with_reducible apply ex_load_box) <;> first | with_reducible exact Tryz.isAgg22 | with_reducible exact Tryz.isAgg23 | with_reducible exact Tryz.isAgg24 | with_reducible exact Tryz.isAgg28 | with_reducible exact Tryz.isAgg3 | with_reducible exact Tryz.isAgg4 | with_reducible exact Tryz.isAgg43 | with_reducible exact Tryz.isAgg46 | with_reducible exact Tryz.isAgg56 | with_reducible exact Tryz.isAgg57 | with_reducible exact Tryz.isAgg58 | with_reducible exact Tryz.isAgg83 | exact rfl)
    | ((with_reducible apply ex_lss) <;> first | exact rfl)
    | ((with_reducible apply ex_nilCheck) <;> first | exact rfl)
    | ((with_reducible apply ex_add) <;> first | exact rfl | assumption)
    | ((with_reducible apply ex_eql) <;> first | exact rfl)
    | ((with_reducible apply ex_pick_f) <;> first | assumption | exact rfl)
    | ((with_reducible apply ex_pick_t) <;> first | assumption | exact rfl)
    | ((with_reducible apply ex_not) <;> first | exact rfl)
    | ((with_reducible apply ex_sub) <;> first | exact rfl | assumption)
    | ((with_reducible apply ex_gtr) <;> first | exact rfl)
    | ((with_reducible apply ex_neg) <;> first | exact rfl | assumption)
    | ((with_reducible apply ex_neq) <;> first | exact rfl)
    | ((with_reducible apply ex_fieldAddr (o' := 2) (f := 2) Tryz.underlying30) <;> first | exact rfl | exact Tryz.sizeOf23)
    | ((with_reducible apply ex_fieldAddr (o' := 6) (f := 6) Tryz.underlying60) <;> first | exact rfl | exact Tryz.sizeOf23)
    | ((with_reducible apply ex_extract) <;> first | exact rfl)
    | ((with_reducible apply ex_geq) <;> first | exact rfl)
    | ((with_reducible apply ex_max) <;> first | exact rfl)
    | ((with_reducible apply ex_leq) <;> first | exact rfl)
    | ((with_reducible apply ex_conv_int) <;> first | with_reducible exact Tryz.underlying119 | with_reducible exact Tryz.underlying3 | exact rfl)
    | ((with_reducible apply ex_r_len) <;> first | with_reducible exact Tryz.underlying23 | exact rfl)
    | ((with_reducible apply ex_fieldAddr (o' := 1) (f := 1) Tryz.underlying60) <;> first | exact rfl | exact Tryz.sizeOf22)
    | ((with_reducible apply ex_fieldAddr (o' := 9) (f := 9) Tryz.underlying60) <;> first | exact rfl | exact Tryz.sizeOf57)
    | ((with_reducible apply ex_fieldAddr (o' := 1) (f := 1) Tryz.underlying30) <;> first | exact rfl | exact Tryz.sizeOf24)
    | ((with_reducible apply ex_fieldAddr (o' := 3) (f := 3) Tryz.underlying60) <;> first | exact rfl | exact Tryz.sizeOf23)
    | ((with_reducible apply ex_fieldAddr (o' := 7) (f := 7) Tryz.underlying60) <;> first | exact rfl | exact Tryz.sizeOf23)
    | ((with_reducible apply ex_fieldAddr (o' := 4) (f := 4) Tryz.underlying60) <;> first | exact rfl | exact Tryz.sizeOf23)
    | ((with_reducible apply ex_fieldAddr (o' := 8) (f := 8) Tryz.underlying60) <;> first | exact rfl | exact Tryz.sizeOf3)
    | ((with_reducible apply ex_fieldAddr (o' := 12) (f := 12) Tryz.underlying60) <;> first | exact rfl | exact Tryz.sizeOf4)
    | ((with_reducible apply ex_fieldAddr (o' := 11) (f := 11) Tryz.underlying60) <;> first | exact rfl | exact Tryz.sizeOf28)
    | ((with_reducible apply ex_fieldAddr (o' := 3) (f := 3) Tryz.underlying30) <;> first | exact rfl | exact Tryz.sizeOf28)
    | ((with_reducible apply ex_fieldAddr (o' := 10) (f := 10) Tryz.underlying60) <;> first | exact rfl | exact Tryz.sizeOf58)
    | ((with_reducible apply ex_mul) <;> first | exact rfl | assumption)
    | ((with_reducible apply ex_fieldAddr (o' := 2) (f := 2) Tryz.underlying60) <;> first | exact rfl | exact Tryz.sizeOf56)
    | ((with_reducible apply ex_fieldAddr (o' := 0) (f := 0) Tryz.underlying60) <;> first | exact rfl | exact Tryz.sizeOf3)
    | ((with_reducible apply ex_fieldAddr (o' := 5) (f := 5) Tryz.underlying60) <;> first | exact rfl | exact Tryz.sizeOf23)
    | ((with_reducible apply ex_fieldAddr (o' := 0) (f := 0) Tryz.underlying30) <;> first | exact rfl | exact Tryz.sizeOf4)
    | ((with_reducible apply ex_min) <;> first | exact rfl)) : Exv Tryz.prog n l C o v := he
theorem X1 (hg : o.guard = none := by exact rfl) (hd : o.dst = some d := by exact rfl) (hdn : Nat.blt d n = true := by exact rfl) (he : Exv Tryz.prog n l C o v := by exact XE) : Stp Tryz.prog ops n l C o d v := .run hg hd hdn he
theorem R (hw : C w) (k : WL Tryz.prog ops Q n ((d, v) :: l) rest w)
  (hs : Stp Tryz.prog ops n l C o d v := by first | exact X1 | ((with_reducible apply Stp.skip); exact rfl; exact rfl; exact rfl; (first | assumption | exact rfl); exact rfl; exact rfl) | (with_reducible apply Stp.skipu) <;> exact rfl | ((with_reducible apply Stp.ug); exact rfl; exact rfl; (first | assumption | exact rfl); exact X1)) : WL Tryz.prog ops Q n l (o :: rest) w := hs.wl hw k
theorem Rq {K : Go.Act → Prop} (k : Wq Tryz.prog ops C K n ((d, v) :: l) rest)
  (hs : Stp Tryz.prog ops n l C o d v := by first | exact X1 | ((with_reducible apply Stp.skip); exact rfl; exact rfl; exact rfl; (first | assumption | exact rfl); exact rfl; exact rfl) | (with_reducible apply Stp.skipu) <;> exact rfl | ((with_reducible apply Stp.ug); exact rfl; exact rfl; (first | assumption | exact rfl); exact X1)) : Wq Tryz.prog ops C K n l (o :: rest) := hs.wq k
end
end Go.Proofs.YtmdoicffgeihcaaGreatDoor
