/- The last words that the walks of seat v use: calls through an interface; what is thrown; fields of the document's values; numbers without a sign. -/
import Derived.Test.YtlhkfkecoekoeaaGreatDoorDrp
set_option linter.unusedVariables false
set_option linter.unusedSimpArgs false
namespace Go.Vc
open Go
def faultC (e a : Int) : List PanicEntry := [{ v := .iface 59 (.agg #[.int .i64 e, .int .i64 a]), recovered := false }]
theorem WQ.of {Q : Exit → Act → World → Prop} {e : Exit} {n : Nat} {l : List (Nat × Value)} {w : World} (h : ∀ a, Fr n l a → Q e a w) : WQ Q e n l w := h
def AnyErr (u : Value) (b : Bool) : Prop := (b = true ∧ u = .nilIface) ∨ (b = false ∧ ∃ T x, u = .iface T x)
theorem has_u64 {i : Int} (h : 0 ≤ i ∧ i ≤ 18446744073709551615) : IntKind.u64.has i := by
  simp only [IntKind.has, IntKind.min, IntKind.max, IntKind.bits, IntKind.signed]; simp; omega
theorem u64_has {i : Int} (h : IntKind.u64.has i) : 0 ≤ i ∧ i ≤ 18446744073709551615 := by
  simp only [IntKind.has, IntKind.min, IntKind.max, IntKind.bits, IntKind.signed] at h; simp at h; omega
theorem shr_has {i : Int} (h : IntKind.u64.has i) {q : Int} (hq : 0 < q := by decide) : IntKind.u64.has (i / q) := by
  have := u64_has h
  refine has_u64 ⟨Int.ediv_nonneg this.1 (by omega), ?_⟩
  have h1 := Int.ediv_le_self q this.1
  omega
theorem cells_iface {t : TypeId} {v : Value} : (Value.iface t v).cells = #[.iface t v] := rfl
theorem cells_niliface : Value.nilIface.cells = #[.nilIface] := rfl
theorem cells_slice {a : Option Addr} {n c : Nat} : (Value.slice a n c).cells = #[.slice a n c] := rfl
section go
variable {P : Program} {n : Nat} {l : List (Nat × Value)} {C : World → Prop} {dst : Option Tmp} {ty : TypeId} {pos : String} {af : Array Edge} {gd : Option (Nat × Bool)} {H : View} {w0 : World} {L : Seg}
theorem enters_i {xs : List Operand} {vs : List Value} {ts : Array TypeId} {r : Operand} {u : Value} {name : String} {f : FuncId} {args : Array Value}
    (hr : opv l r = some u) (hv : opvs l xs vs) (hb : ∀ (w : World), (callMethod u name vs.toArray).run P w = .ok (.enter f args) w) :
    ∀ a, Fr n l a → (execOp a.eval ⟨dst, .call { callee := .invoke r name, args := xs.toArray, argTypes := ts }, ty, pos, af, gd⟩).run P w0 = .ok (.enter f args) w0 := fun a ha => by
  have h1 := ha.evals hv
  have h2 := ha.eval hr
  have h3 : (#[u] ++ vs.toArray).extract 1 (1 + vs.length) = vs.toArray := by
    apply Array.ext'; simp
  have h4 : xs.length = vs.length := by rw [← h1]; simp
  simp [execOp, resolve, invoke, h1, h2, h4, h3, hb]
theorem ex_aerr_neq {t t' : TypeId} {x : Operand} {v : Value} {b : Bool} (ht : P.underlying t = some (.interface (P.methodsAt t))) (hx : opv l x = some v) (he : AnyErr v b) :
    Exv P n l C ⟨dst, .binOp .neq t x (.const .nilIface) t', ty, pos, af, gd⟩ (.bool (!b)) := by
  rcases he with ⟨rfl, rfl⟩ | ⟨rfl, T, z, rfl⟩
  · refine ex_neqv (u := .nilIface) (v := .nilIface) hx rfl (fun w => by simp [eqGuard]) fun w => by simp [run_neq_nil_nil w t ht]
  · refine ex_neqv (u := .iface T z) (v := .nilIface) hx rfl (fun w => by simp [eqGuard]) fun w => by simp [run_neq_held_nil w t T z ht]
theorem ex_load_agg_s {α : Type} {c : Codec α} {t : TypeId} {x : Operand} {p : Value} {z : α} (hag : ∀ w, (isAgg t).run P w = .ok true w) (hsz : ∀ w, (sizeOf t).run P w = .ok c.size w)
    (hx : opv l x = some p) (hp : IsPt H c p z) : ∃ v, (∃ cs, v = .agg cs.toArray ∧ c.rep H cs z) ∧ ∀ K L, View.le H K → Exv P n l (St w0 K (([] : Seg) ++ L)) ⟨dst, .load t x, ty, pos, af, gd⟩ v := by
  obtain ⟨b, off, arr, T, fz, pre, cs, rest, rfl, e2, e3, e4, e5⟩ := hp
  refine ⟨_, ⟨cs, rfl, e5⟩, fun K L hle w hw a ha => ?_⟩
  have hb := hw.fits _ _ (hle _ _ e2)
  have h : (arr.toList.drop off).take c.size = cs := by
    rw [e3, List.drop_append, List.drop_eq_nil_of_le (by omega), e4, Nat.sub_self, List.nil_append, List.drop_zero, ← c.len e5, List.take_left]
  simp [execOp, Instr.loadAt, Instr.sureAddr, ha.eval hx, loadVar, hag, hsz, run_loadCells_block hb h (c.len e5)]
theorem tdiv_has {a b : Int} (h : IntKind.u64.has a) (hb : 0 < b) : IntKind.u64.has (a.tdiv b) := by
  have := u64_has h
  have h1 := Int.ediv_le_self b this.1
  have h2 : a.tdiv b = a / b := Int.tdiv_eq_ediv_of_nonneg this.1
  refine has_u64 ⟨by rw [h2]; exact Int.ediv_nonneg this.1 (by omega), by rw [h2]; omega⟩
theorem ex_urem {t t' : TypeId} {x y : Operand} {p q : Int} (hx : opv l x = some (.int .u64 p)) (hy : opv l y = some (.int .u64 q)) (hp : IntKind.u64.has p) (hq : 0 < q) : Exv P n l C ⟨dst, .binOp .rem t x y t', ty, pos, af, gd⟩ (.int .u64 (p.tmod q)) := ex_bin hx hy fun w => by
  have h1 : ¬ q = 0 := by omega
  simp [binOp, Op.intDiv, h1]
theorem ex_uquo {t t' : TypeId} {x y : Operand} {p q : Int} (hx : opv l x = some (.int .u64 p)) (hy : opv l y = some (.int .u64 q)) (hp : IntKind.u64.has p) (hq : 0 < q) : Exv P n l C ⟨dst, .binOp .quo t x y t', ty, pos, af, gd⟩ (.int .u64 (p.tdiv q)) := ex_bin hx hy fun w => by
  have h1 : ¬ q = 0 := by omega
  have h2 : IntKind.u64.wrap (p.tdiv q) = p.tdiv q := by
    have := u64_has (tdiv_has hp hq)
    simp only [IntKind.wrap, IntKind.bits, IntKind.signed]; simp; omega
  simp [binOp, Op.intDiv, h1, h2]
theorem ex_ushr {t t' : TypeId} {x y : Operand} {p : Int} {q : Nat} {k : IntKind} (hx : opv l x = some (.int .u64 p)) (hy : opv l y = some (.int k (q : Nat))) (hp : IntKind.u64.has p) (hq : q < 64) : Exv P n l C ⟨dst, .binOp .shr t x y t', ty, pos, af, gd⟩ (.int .u64 (p / (2 ^ q : Nat))) := fun w _ a ha => by
  have hm : min ((q : Int)).toNat IntKind.u64.bits = q := by show min ((q : Int)).toNat 64 = q; omega
  have h3 : p.fdiv (2 ^ q) = p / (2 ^ q : Nat) := by
    rw [Int.fdiv_eq_ediv_of_nonneg _ (Int.pow_nonneg (by omega))]; congr 1
  have : (binOp .shr t (.int .u64 p) (.int k (q : Nat))).run P w = .ok (.int .u64 (p / (2 ^ q : Nat))) w := by
    simp only [binOp, Op.shift]
    rw [if_neg (by omega), hm]
    simp [h3]
  simp only [execOp, ha.eval hx, ha.eval hy]
  rw [Sem.run_bind, run_binS this]
  rfl
theorem IsPS.mk {a : Option Addr} {z : Val} (hx : IsW H (.iface 93 (.pointer a)) z) : IsPS H (.pointer a) z := ⟨fun _ => hx, rfl⟩
theorem IsPF.mk {a : Option Addr} {z : Val} (hx : IsW H (.iface 97 (.pointer a)) z) : IsPF H (.pointer a) z := ⟨fun _ => hx, rfl⟩
theorem pt_rv {p : Value} {z : RV} (h : IsPt H cR p z) : ∃ b off arr T fz pre v v' rest, p = .pointer (some ⟨b, off, none⟩) ∧ H b = some (.cells arr T fz) ∧ arr.toList = pre ++ ([.int .i64 z.k, .int .i64 z.i, sv z.t, v, v'] ++ rest) ∧ pre.length = off ∧ I64 z.k ∧ I64 z.i ∧ IsSl H cR v z.ks ∧ IsSl H cR v' z.vs := by
  obtain ⟨b, off, arr, T, fz, pre, cs, rest, h1, h2, h3, h4, h5⟩ := h
  obtain ⟨v, v', rfl, r1, r2, h6, h7⟩ := cR_rep.1 h5
  exact ⟨b, off, arr, T, fz, pre, v, v', rest, h1, h2, h3, h4, r1, r2, h6, h7⟩
section rv
variable {s : TypeId} {x : Operand} {k : Nat} {fields : Array Field} {fd : Field} {p : Value} {z : RV}
theorem ex_rv_k (hs : P.underlying s = some (.struct fields)) (hf : fields[0]? = some fd) (hsz : ∀ w, (sizeOf fd.type).run P w = .ok (k + 1) w) (ho : fd.offset = 0) (hx : opv l x = some p) (hp : IsPt H cR p z) :
    ∃ q, IsPt H (cInt .i64) q z.k ∧ Exv P n l C ⟨dst, .fieldAddr s x 0, ty, pos, af, gd⟩ q := by
  obtain ⟨b, off, arr, T, fz, pre, v, v', rest, rfl, h2, h3, h4, r1, r2, h6, h7⟩ := pt_rv hp
  exact ⟨.pointer (some ⟨b, off + 0, none⟩), ⟨b, _, arr, T, fz, pre, [_], [.int .i64 z.i, sv z.t, v, v'] ++ rest, rfl, h2, by rw [h3]; simp, by omega, rfl, r1.has⟩, ex_fieldAddr hs hf hsz hx (by rw [ho])⟩
theorem ex_rv_i (hs : P.underlying s = some (.struct fields)) (hf : fields[1]? = some fd) (hsz : ∀ w, (sizeOf fd.type).run P w = .ok (k + 1) w) (ho : fd.offset = 1) (hx : opv l x = some p) (hp : IsPt H cR p z) :
    ∃ q, IsPt H (cInt .i64) q z.i ∧ Exv P n l C ⟨dst, .fieldAddr s x 1, ty, pos, af, gd⟩ q := by
  obtain ⟨b, off, arr, T, fz, pre, v, v', rest, rfl, h2, h3, h4, r1, r2, h6, h7⟩ := pt_rv hp
  exact ⟨.pointer (some ⟨b, off + 1, none⟩), ⟨b, _, arr, T, fz, pre ++ [.int .i64 z.k], [_], [sv z.t, v, v'] ++ rest, rfl, h2, by rw [h3]; simp, by simp [h4], rfl, r2.has⟩, ex_fieldAddr hs hf hsz hx (by rw [ho])⟩
end rv
end go
end Go.Vc
