/- Strings: lists of bytes; what is done with them. -/
import Derived.Test.YtlhkfkecoekoeaaGreatDoorMore
import Derived.Laws.Strings
import Derived.Laws.Strings2
import Derived.Laws.Concat
set_option linter.unusedVariables false
set_option linter.unusedSimpArgs false
namespace Go.Vc
open Go
abbrev Str := List UInt8
def sv (x : Str) : Value := .string ⟨x.toArray⟩
def cStr : Codec Str where
  size := 1
  rep := fun _ cs x => cs = [sv x]
  len := fun h => by rw [h]; rfl
  mono := fun _ h => h
  one := fun h u hu => by rw [h] at hu; rw [List.mem_singleton.1 hu]; rfl
theorem cStr_rep {H : View} {u : Value} {x : Str} (h : cStr.rep H [u] x) : u = sv x := by cases h; rfl
theorem cStr_mk {H : View} {x : Str} : cStr.rep H [sv x] x := rfl
theorem str_cells {x : Str} : (sv x).cells = #[sv x] := rfl
def byte (x : Str) (i : Int) : Int := ((ix x i).toNat : Nat)
theorem byte_has {x : Str} {i : Int} : IntKind.u8.has (byte x i) := by
  have := (ix x i).toNat_lt
  unfold byte
  simp only [IntKind.has, IntKind.min, IntKind.max, IntKind.bits, IntKind.signed]; simp; omega
theorem bytes_toList (x : Str) : (⟨x.toArray⟩ : ByteArray).toList = x := ByteArray.toList_mk x
theorem bytes_size (x : Str) : (⟨x.toArray⟩ : ByteArray).size = x.length := rfl
theorem bytes_append (x y : Str) : (⟨x.toArray⟩ : ByteArray) ++ ⟨y.toArray⟩ = ⟨(x ++ y).toArray⟩ := ByteArray.mk_append_mk x y
theorem beq_dec {a b : Str} : (a == b) = decide (a = b) := by by_cases h : a = b <;> simp [h]
def sLt (x y : Str) : Bool := Op.bytesLess x y
section
variable {P : Program} {n : Nat} {l : List (Nat × Value)} {C : World → Prop} {dst : Option Tmp} {ty : TypeId} {pos : String} {af : Array Edge} {gd : Option (Nat × Bool)} {t t' : TypeId} {x y : Operand} {a b : Str} {H : View}
theorem ex_bin_s {op : BinOp} {r : Value} (hx : opv l x = some (sv a)) (hy : opv l y = some (sv b)) (h : ∀ w, (binOp op t (sv a) (sv b)).run P w = .ok r w) : Exv P n l C ⟨dst, .binOp op t x y t', ty, pos, af, gd⟩ r := fun w _ act ha => by
  have hg : (eqGuard op t x y (sv a) (sv b)).run P w = .ok () w := by
    unfold eqGuard
    cases op <;> rfl
  simp only [execOp, ha.eval hx, ha.eval hy]
  rw [Sem.run_bind, Sem.run_bind, hg]
  show (((binOp op t (sv a) (sv b)).run P w).andThen _) = _
  rw [h w]; rfl
theorem ex_s_eql (hx : opv l x = some (sv a)) (hy : opv l y = some (sv b)) : Exv P n l C ⟨dst, .binOp .eql t x y t', ty, pos, af, gd⟩ (.bool (decide (a = b))) :=
  ex_bin_s hx hy fun w => by simp [binOp, sv, Op.stringOp, bytes_toList, beq_dec]
theorem ex_s_neq (hx : opv l x = some (sv a)) (hy : opv l y = some (sv b)) : Exv P n l C ⟨dst, .binOp .neq t x y t', ty, pos, af, gd⟩ (.bool (decide (a ≠ b))) :=
  ex_bin_s hx hy fun w => by simp [binOp, sv, Op.stringOp, bytes_toList, bne, beq_dec]
theorem ex_s_lss (hx : opv l x = some (sv a)) (hy : opv l y = some (sv b)) : Exv P n l C ⟨dst, .binOp .lss t x y t', ty, pos, af, gd⟩ (.bool (sLt a b)) :=
  ex_bin_s hx hy fun w => by simp [binOp, sv, Op.stringOp, bytes_toList, sLt]
theorem ex_s_gtr (hx : opv l x = some (sv a)) (hy : opv l y = some (sv b)) : Exv P n l C ⟨dst, .binOp .gtr t x y t', ty, pos, af, gd⟩ (.bool (!(sLt a b || decide (a = b)))) :=
  ex_bin_s hx hy fun w => by simp [binOp, sv, Op.stringOp, bytes_toList, sLt, beq_dec]
theorem ex_s_add (hx : opv l x = some (sv a)) (hy : opv l y = some (sv b)) (h : I64 (a.length + b.length)) : Exv P n l C ⟨dst, .binOp .add t x y t', ty, pos, af, gd⟩ (sv (a ++ b)) :=
  ex_bin_s hx hy fun w => by
    have : ¬ (((a.length + b.length : Nat) : Int) > IntKind.i64.max) := by unfold I64 at h; simp [IntKind.max, IntKind.bits, IntKind.signed]; omega
    simp only [binOp, sv, Op.stringOp, bytes_size, this, if_false, bytes_append]; rfl
theorem ex_s_len (ht : P.underlying t = some .string) (hx : opv l x = some (sv a)) : Exv P n l C ⟨dst, .call { callee := .builtin .len, args := #[x], argTypes := #[t] }, ty, pos, af, gd⟩ (.int .i64 a.length) := fun w _ act ha => by
  have hx := ha.eval hx
  simp [execOp, resolve, invoke, builtin, Builtin.len_, hx, run_underlying ht, sv, bytes_size, goInt]
theorem ex_s_index {i : Int} {k : IntKind} (ht : P.underlying t = some .string) (hx : opv l x = some (sv a)) (hy : opv l y = some (.int k i)) (h : In i a) : Exv P n l C ⟨dst, .index t x y, ty, pos, af, gd⟩ (.int .u8 (byte a i)) := fun w _ act ha => by
  have hx := ha.eval hx; have hy := ha.eval hy
  have hg := ix_get h.1 h.2
  have h1 : (⟨a.toArray⟩ : ByteArray)[i.toNat]? = some (ix a i) := by
    have hlt : i.toNat < (⟨a.toArray⟩ : ByteArray).size := by rw [bytes_size]; have := h.1; have := h.2; omega
    rw [ByteArray.getElem?_lt' _ _ hlt, ← hg]
    have : i.toNat < a.length := by have := h.1; have := h.2; omega
    rw [List.getElem?_eq_getElem this]; rfl
  simp [execOp, Instr.index, hx, hy, asIntOf, run_underlying ht, sv, h.1, h1, byte]
theorem ex_s_lo {i : Int} {k : IntKind} (ht : P.underlying t = some .string) (hx : opv l x = some (sv a)) (hy : opv l y = some (.int k i)) (h : (0 : Int) ≤ i ∧ i ≤ (a.length : Int)) : Exv P n l C ⟨dst, .slice t x (some y) none none, ty, pos, af, gd⟩ (sv (a.drop i.toNat)) := fun w _ act ha => by
  have hx := ha.eval hx; have hy := ha.eval hy
  have hb := fun c => run_bound (P := P) (w := w) (k := k) (code := c) h.1 (show i ≤ (a.length : Int) from h.2)
  have he : (⟨a.toArray⟩ : ByteArray).extract i.toNat a.length = ⟨(a.drop i.toNat).toArray⟩ := by
    rw [ByteArray.extract_mk, List.take_of_length_le (by rw [List.length_drop]; omega)]
  simp [execOp, Instr.sliceAt, Instr.slice, hx, hy, run_underlying ht, sv, Instr.sliceBounds, bytes_size, hb, he]
theorem ex_s_hi {i : Int} {k : IntKind} (ht : P.underlying t = some .string) (hx : opv l x = some (sv a)) (hy : opv l y = some (.int k i)) (h : (0 : Int) ≤ i ∧ i ≤ (a.length : Int)) : Exv P n l C ⟨dst, .slice t x none (some y) none, ty, pos, af, gd⟩ (sv (a.take i.toNat)) := fun w _ act ha => by
  have hx := ha.eval hx; have hy := ha.eval hy
  have hb := fun c => run_bound (P := P) (w := w) (k := k) (code := c) h.1 (show i ≤ (a.length : Int) from h.2)
  have he : (⟨a.toArray⟩ : ByteArray).extract 0 i.toNat = ⟨(a.take i.toNat).toArray⟩ := by
    rw [ByteArray.extract_mk, List.drop_zero, Nat.sub_zero]
  simp [execOp, Instr.sliceAt, Instr.slice, hx, hy, run_underlying ht, sv, Instr.sliceBounds, bytes_size, hb, he]
theorem ex_s_lohi {i j : Int} {k k' : IntKind} {z : Operand} (ht : P.underlying t = some .string) (hx : opv l x = some (sv a)) (hy : opv l y = some (.int k i)) (hz : opv l z = some (.int k' j)) (h : (0 : Int) ≤ i ∧ i ≤ j ∧ j ≤ (a.length : Int)) :
    Exv P n l C ⟨dst, .slice t x (some y) (some z) none, ty, pos, af, gd⟩ (sv ((a.take j.toNat).drop i.toNat)) := fun w _ act ha => by
  have hx := ha.eval hx; have hy := ha.eval hy; have hz := ha.eval hz
  have hb1 := fun c => run_bound (P := P) (w := w) (k := k') (code := c) (by omega : (0 : Int) ≤ j) (show j ≤ (a.length : Int) from h.2.2)
  have hb2 := fun c => run_bound (P := P) (w := w) (k := k) (y := j.toNat) (code := c) h.1 (by omega : i ≤ (j.toNat : Int))
  have he : (⟨a.toArray⟩ : ByteArray).extract i.toNat j.toNat = ⟨((a.take j.toNat).drop i.toNat).toArray⟩ := by
    rw [ByteArray.extract_mk, List.drop_take]
  simp [execOp, Instr.sliceAt, Instr.slice, hx, hy, hz, run_underlying ht, sv, Instr.sliceBounds, bytes_size, hb1, hb2, he]
end
end Go.Vc
