/- The closed facts of the program that the walks use. -/
import Derived.Test.YtlhkfkecoekoeaaGreatDoorRows
import Derived.Test.YtlhkfkecoekoeaaGreatDoorAut
namespace Go.Proofs.YtlhkfkecoekoeaaGreatDoor
theorem Tryz.mixed : Tryz.prog.follows .mixedOrders = true := by kernel_rfl
theorem Tryz.info3 : (Tryz.prog.info? 3).map (fun i => (i.zero, i.size, i.bytes)) = some (some (.int .i64 0), 1, 8) := by kernel_rfl
theorem Tryz.info5 : (Tryz.prog.info? 5).map (fun i => (i.zero, i.size, i.bytes)) = some (some (.int .u8 0), 1, 1) := by kernel_rfl
theorem Tryz.info9 : (Tryz.prog.info? 9).map (fun i => (i.zero, i.size, i.bytes)) = some (some (.string ⟨#[]⟩), 1, 16) := by kernel_rfl
theorem Tryz.info25 : (Tryz.prog.info? 25).map (fun i => (i.zero, i.size, i.bytes)) = some (some (.agg #[.nilIface]), 1, 16) := by kernel_rfl
theorem Tryz.info32 : (Tryz.prog.info? 32).map (fun i => (i.zero, i.size, i.bytes)) = some (some (.agg #[.int .i64 0, .int .i64 0, .string ⟨#[]⟩, .slice none 0 0, .slice none 0 0]), 5, 80) := by kernel_rfl
theorem Tryz.concrete59 : Tryz.prog.concrete 59 = true := by kernel_rfl
theorem Tryz.concrete86 : Tryz.prog.concrete 86 = true := by kernel_rfl
theorem Tryz.concrete87 : Tryz.prog.concrete 87 = true := by kernel_rfl
theorem Tryz.concrete89 : Tryz.prog.concrete 89 = true := by kernel_rfl
theorem Tryz.concrete91 : Tryz.prog.concrete 91 = true := by kernel_rfl
theorem Tryz.concrete93 : Tryz.prog.concrete 93 = true := by kernel_rfl
theorem Tryz.concrete97 : Tryz.prog.concrete 97 = true := by kernel_rfl
theorem Tryz.concrete114 : Tryz.prog.concrete 114 = true := by kernel_rfl
theorem Tryz.iface23 : Tryz.prog.underlying 23 = some (.interface (Tryz.prog.methodsAt 23)) := by kernel_rfl
theorem Tryz.iface27 : Tryz.prog.underlying 27 = some (.interface (Tryz.prog.methodsAt 27)) := by kernel_rfl
section
open Go.Vc Go
variable {ops : Array Go.Oper} {Q : Go.Exit → Go.Act → Go.World → Prop} {n : Nat} {l : List (Nat × Go.Value)} {rest : List Go.Oper} {o : Go.Oper} {w : Go.World} {C : Go.World → Prop} {d : Nat} {v : Go.Value}
theorem XE (he : Exv Tryz.prog n l C o v := by
    first
    | ((with_reducible apply ex_move) <;> first | exact rfl)
    | ((with_reducible apply ex_assign) <;> first | exact rfl)
    | ((with_reducible apply ex_load_box) <;> first | with_reducible exact Tryz.isAgg1 | with_reducible exact Tryz.isAgg2 | with_reducible exact Tryz.isAgg23 | with_reducible exact Tryz.isAgg3 | with_reducible exact Tryz.isAgg30 | with_reducible exact Tryz.isAgg4 | with_reducible exact Tryz.isAgg42 | with_reducible exact Tryz.isAgg57 | with_reducible exact Tryz.isAgg60 | with_reducible exact Tryz.isAgg9 | with_reducible exact Tryz.isAgg93 | with_reducible exact Tryz.isAgg97 | exact rfl)
    | ((with_reducible apply ex_pick_f) <;> first | assumption | exact rfl)
    | ((with_reducible apply ex_nilCheck) <;> first | exact rfl)
    | ((with_reducible apply ex_pick_t) <;> first | assumption | exact rfl)
    | ((with_reducible apply ex_eql) <;> first | exact rfl)
    | ((with_reducible apply ex_lss) <;> first | exact rfl)
    | ((with_reducible apply ex_add) <;> first | exact rfl | assumption)
    | ((with_reducible apply ex_s_eql) <;> first | exact rfl)
    | ((with_reducible apply ex_extract) <;> first | exact rfl)
    | ((with_reducible apply ex_gtr) <;> first | exact rfl)
    | ((with_reducible apply ex_geq) <;> first | exact rfl)
    | ((with_reducible apply ex_leq) <;> first | exact rfl)
    | ((with_reducible apply ex_fieldAddr (o' := 1) (f := 1) Tryz.underlying62) <;> first | exact rfl | exact Tryz.sizeOf3)
    | ((with_reducible apply ex_s_len) <;> first | with_reducible exact Tryz.underlying9 | exact rfl)
    | ((with_reducible apply ex_sub) <;> first | exact rfl | assumption)
    | ((with_reducible apply ex_s_index) <;> first | with_reducible exact Tryz.underlying9 | exact rfl | assumption)
    | ((with_reducible apply ex_fieldAddr (o' := 1) (f := 1) Tryz.underlying67) <;> first | exact rfl | exact Tryz.sizeOf3)
    | ((with_reducible apply ex_not) <;> first | exact rfl)
    | ((with_reducible apply ex_neq) <;> first | exact rfl)
    | ((with_reducible apply ex_fieldAddr (o' := 0) (f := 0) Tryz.underlying62) <;> first | exact rfl | exact Tryz.sizeOf9)
    | ((with_reducible apply ex_fieldAddr (o' := 0) (f := 0) Tryz.underlying67) <;> first | exact rfl | exact Tryz.sizeOf9)
    | ((with_reducible apply ex_fieldAddr (o' := 0) (f := 0) Tryz.underlying25) <;> first | exact rfl | exact Tryz.sizeOf23)
    | ((with_reducible apply ex_s_add) <;> first | exact rfl | assumption)
    | ((with_reducible apply ex_conv_int) <;> first | with_reducible exact Tryz.underlying115 | with_reducible exact Tryz.underlying180 | with_reducible exact Tryz.underlying2 | with_reducible exact Tryz.underlying3 | with_reducible exact Tryz.underlying5 | exact rfl)
    | ((with_reducible apply ex_fieldAddr (o' := 3) (f := 3) Tryz.underlying32) <;> first | exact rfl | exact Tryz.sizeOf30)
    | ((with_reducible apply ex_fieldAddr (o' := 2) (f := 2) Tryz.underlying62) <;> first | exact rfl | exact Tryz.sizeOf3)
    | ((with_reducible apply ex_fieldAddr (o' := 3) (f := 3) Tryz.underlying67) <;> first | exact rfl | exact Tryz.sizeOf3)
    | ((with_reducible apply ex_fieldAddr (o' := 0) (f := 0) Tryz.underlying32) <;> first | exact rfl | exact Tryz.sizeOf3)
    | ((with_reducible apply ex_fieldAddr (o' := 1) (f := 1) Tryz.underlying32) <;> first | exact rfl | exact Tryz.sizeOf2)
    | ((with_reducible apply ex_fieldAddr (o' := 4) (f := 4) Tryz.underlying32) <;> first | exact rfl | exact Tryz.sizeOf30)
    | ((with_reducible apply ex_s_neq) <;> first | exact rfl)
    | ((with_reducible apply ex_fieldAddr (o' := 2) (f := 2) Tryz.underlying67) <;> first | exact rfl | exact Tryz.sizeOf3)
    | ((with_reducible apply ex_fieldAddr (o' := 2) (f := 2) Tryz.underlying32) <;> first | exact rfl | exact Tryz.sizeOf9)
    | ((with_reducible apply ex_s_lss) <;> first | exact rfl)
    | ((with_reducible apply ex_s_gtr) <;> first | exact rfl)
    | ((with_reducible apply ex_mul) <;> first | exact rfl | assumption)
    | ((with_reducible apply ex_fieldAddr (o' := 3) (f := 3) Tryz.underlying62) <;> first | exact rfl | exact Tryz.sizeOf4)
    | ((with_reducible apply ex_fieldAddr (o' := 5) (f := 5) Tryz.underlying67) <;> first | exact rfl | exact Tryz.sizeOf4)
    | ((with_reducible apply ex_neg) <;> first | exact rfl | assumption)
    | ((with_reducible apply ex_fieldAddr (o' := 2) (f := 2) Tryz.underlying100) <;> first | exact rfl | exact Tryz.sizeOf3)
    | ((with_reducible apply ex_fieldAddr (o' := 4) (f := 4) Tryz.underlying67) <;> first | exact rfl | exact Tryz.sizeOf3)) : Exv Tryz.prog n l C o v := he
theorem X1 (hg : o.guard = none := by exact rfl) (hd : o.dst = some d := by exact rfl) (hdn : Nat.blt d n = true := by exact rfl) (he : Exv Tryz.prog n l C o v := by exact XE) : Stp Tryz.prog ops n l C o d v := .run hg hd hdn he
theorem R (hw : C w) (k : WL Tryz.prog ops Q n ((d, v) :: l) rest w)
  (hs : Stp Tryz.prog ops n l C o d v := by first | exact X1 | ((with_reducible apply Stp.skip); exact rfl; exact rfl; exact rfl; (first | assumption | exact rfl); exact rfl; exact rfl) | (with_reducible apply Stp.skipu) <;> exact rfl | ((with_reducible apply Stp.ug); exact rfl; exact rfl; (first | assumption | exact rfl); exact X1)) : WL Tryz.prog ops Q n l (o :: rest) w := hs.wl hw k
theorem Rq {K : Go.Act → Prop} (k : Wq Tryz.prog ops C K n ((d, v) :: l) rest)
  (hs : Stp Tryz.prog ops n l C o d v := by first | exact X1 | ((with_reducible apply Stp.skip); exact rfl; exact rfl; exact rfl; (first | assumption | exact rfl); exact rfl; exact rfl) | (with_reducible apply Stp.skipu) <;> exact rfl | ((with_reducible apply Stp.ug); exact rfl; exact rfl; (first | assumption | exact rfl); exact X1)) : Wq Tryz.prog ops C K n l (o :: rest) := hs.wq k
end
end Go.Proofs.YtlhkfkecoekoeaaGreatDoor
