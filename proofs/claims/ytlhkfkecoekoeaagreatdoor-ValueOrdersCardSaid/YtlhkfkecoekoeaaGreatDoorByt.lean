/- Bytes: a slice of bytes as a list of them; append of a text; a text out of bytes; numbers of other kinds. -/
import Derived.Test.YtlhkfkecoekoeaaGreatDoorPan
import Derived.Lib.AppendStr
set_option linter.unusedVariables false
set_option linter.unusedSimpArgs false
namespace Go.Vc
open Go Go.Lib
def u8 (i : Int) : UInt8 := UInt8.ofNat i.toNat
section app
variable {P : Program} {w0 w : World} {H : View} {L fp : Seg}
end app
section rules
variable {P : Program} {ops : Array Oper} {Q : Exit → Act → World → Prop} {n : Nat} {l : List (Nat × Value)} {rest : List Oper} {w0 w : World} {H : View} {L : Seg} {ty : TypeId} {pos : String} {af : Array Edge}
end rules
section ex
variable {P : Program} {n : Nat} {l : List (Nat × Value)} {C : World → Prop} {dst : Option Tmp} {ty : TypeId} {pos : String} {af : Array Edge} {gd : Option (Nat × Bool)} {H K : View} {w0 : World} {L fp : Seg}
theorem ex_conv_int {src dt : TypeId} {x : Operand} {k k' : IntKind} {i : Int} (hs : P.underlying src = some (.int k)) (hd : P.underlying dt = some (.int k')) (hx : opv l x = some (.int k i)) :
    Exv P n l C ⟨dst, .convert src dt x, ty, pos, af, gd⟩ (.int k' (k'.wrap i)) := fun w _ a ha => by
  simp [execOp, ha.eval hx, convert, run_underlying hs, run_underlying hd, Conv.intToInt]
theorem ex_wrap_add {t t' : TypeId} {k : IntKind} {x y : Operand} {p q : Int} (hx : opv l x = some (.int k p)) (hy : opv l y = some (.int k q)) : Exv P n l C ⟨dst, .binOp .add t x y t', ty, pos, af, gd⟩ (.int k (k.wrap (p + q))) := ex_bin hx hy fun w => by simp [binOp, Op.intArith]
theorem ex_wrap_sub {t t' : TypeId} {k : IntKind} {x y : Operand} {p q : Int} (hx : opv l x = some (.int k p)) (hy : opv l y = some (.int k q)) : Exv P n l C ⟨dst, .binOp .sub t x y t', ty, pos, af, gd⟩ (.int k (k.wrap (p - q))) := ex_bin hx hy fun w => by simp [binOp, Op.intArith]
theorem ex_wrap_mul {t t' : TypeId} {k : IntKind} {x y : Operand} {p q : Int} (hx : opv l x = some (.int k p)) (hy : opv l y = some (.int k q)) : Exv P n l C ⟨dst, .binOp .mul t x y t', ty, pos, af, gd⟩ (.int k (k.wrap (p * q))) := ex_bin hx hy fun w => by simp [binOp, Op.intArith]
theorem ex_wrap_neg {t : TypeId} {k : IntKind} {x : Operand} {p : Int} (hx : opv l x = some (.int k p)) : Exv P n l C ⟨dst, .unOp .neg t x, ty, pos, af, gd⟩ (.int k (k.wrap (-p))) := fun w _ a ha => by
  simp [execOp, ha.eval hx, Op.unary, Op.intArith]
end ex
theorem wrap_has (k : IntKind) (x : Int) : k.has (k.wrap x) := by
  cases k <;> simp only [IntKind.has, IntKind.wrap, IntKind.min, IntKind.max, IntKind.bits, IntKind.signed] <;> simp <;> first | omega | (split <;> omega)
theorem wrap_I64 (x : Int) : I64 (IntKind.i64.wrap x) := has_I64 (wrap_has _ x)
end Go.Vc
