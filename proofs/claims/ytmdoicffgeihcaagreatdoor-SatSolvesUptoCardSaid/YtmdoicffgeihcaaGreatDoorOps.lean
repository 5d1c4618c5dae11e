/- The operations of the calculus: each one's value, in every world that the state allows; and how a list of operations goes on behind it. -/
import Derived.Test.YtmdoicffgeihcaaGreatDoorHeap
set_option linter.unusedVariables false
namespace Go.Vc
open Go

/-- In every world of the class the operation yields this value and leaves the world as it is. -/
def Exv (P : Program) (n : Nat) (l : List (Nat × Value)) (C : World → Prop) (o : Oper) (v : Value) : Prop :=
  ∀ w, C w → ∀ a, Fr n l a → (execOp a.eval o).run P w = .ok (.value v) w

section ex
variable {P : Program} {n : Nat} {l : List (Nat × Value)} {C : World → Prop} {dst : Option Tmp} {ty : TypeId} {pos : String} {af : Array Edge} {gd : Option (Nat × Bool)}

theorem ex_move {x : Operand} {v : Value} (hx : opv l x = some v) : Exv P n l C ⟨dst, .move x, ty, pos, af, gd⟩ v := fun w _ a ha => by
  simp only [execOp, ha.eval hx]; rfl
theorem ex_assign {x : Operand} {v : Value} (hx : opv l x = some v) : Exv P n l C ⟨dst, .assign x, ty, pos, af, gd⟩ v := fun w _ a ha => by
  simp only [execOp, ha.eval hx]; rfl
theorem ex_pick_t {c x y : Operand} {b : Bool} {v : Value} (hc : opv l c = some (.bool b)) (hb : b = true) (hx : opv l x = some v) : Exv P n l C ⟨dst, .pick c x y, ty, pos, af, gd⟩ v := fun w _ a ha => by
  subst hb
  simp only [execOp, ha.eval hc, ha.eval hx, asBool]; rfl
theorem ex_pick_f {c x y : Operand} {b : Bool} {v : Value} (hc : opv l c = some (.bool b)) (hb : b = false) (hy : opv l y = some v) : Exv P n l C ⟨dst, .pick c x y, ty, pos, af, gd⟩ v := fun w _ a ha => by
  subst hb
  simp only [execOp, ha.eval hc, ha.eval hy, asBool]; rfl

theorem run_bin {op : BinOp} {t : TypeId} {x y : Operand} {k : IntKind} {p q : Int} {w : World} {r : Value} (h : (binOp op t (.int k p) (.int k q)).run P w = .ok r w) :
    (do eqGuard op t x y (.int k p) (.int k q); binOp op t (.int k p) (.int k q)).run P w = .ok r w := by
  have : (eqGuard op t x y (.int k p) (.int k q)).run P w = .ok () w := by
    unfold eqGuard
    cases op <;> rfl
  rw [Sem.run_bind, this]
  exact h
theorem ex_bin {op : BinOp} {t t' : TypeId} {x y : Operand} {k : IntKind} {p q : Int} {r : Value} (hx : opv l x = some (.int k p)) (hy : opv l y = some (.int k q))
    (h : ∀ w, (binOp op t (.int k p) (.int k q)).run P w = .ok r w) : Exv P n l C ⟨dst, .binOp op t x y t', ty, pos, af, gd⟩ r := fun w _ a ha => by
  simp only [execOp, ha.eval hx, ha.eval hy]
  rw [Sem.run_bind, run_bin (h w)]
  rfl
theorem ex_lss {t t' : TypeId} {x y : Operand} {k : IntKind} {p q : Int} (hx : opv l x = some (.int k p)) (hy : opv l y = some (.int k q)) :
    Exv P n l C ⟨dst, .binOp .lss t x y t', ty, pos, af, gd⟩ (.bool (decide (p < q))) := ex_bin hx hy fun w => by simp [binOp, Op.intCmp]
theorem ex_leq {t t' : TypeId} {x y : Operand} {k : IntKind} {p q : Int} (hx : opv l x = some (.int k p)) (hy : opv l y = some (.int k q)) :
    Exv P n l C ⟨dst, .binOp .leq t x y t', ty, pos, af, gd⟩ (.bool (decide (p ≤ q))) := ex_bin hx hy fun w => by simp [binOp, Op.intCmp]
theorem ex_gtr {t t' : TypeId} {x y : Operand} {k : IntKind} {p q : Int} (hx : opv l x = some (.int k p)) (hy : opv l y = some (.int k q)) :
    Exv P n l C ⟨dst, .binOp .gtr t x y t', ty, pos, af, gd⟩ (.bool (decide (q < p))) := ex_bin hx hy fun w => by simp [binOp, Op.intCmp]
theorem ex_geq {t t' : TypeId} {x y : Operand} {k : IntKind} {p q : Int} (hx : opv l x = some (.int k p)) (hy : opv l y = some (.int k q)) :
    Exv P n l C ⟨dst, .binOp .geq t x y t', ty, pos, af, gd⟩ (.bool (decide (q ≤ p))) := ex_bin hx hy fun w => by simp [binOp, Op.intCmp]
theorem ex_eql {t t' : TypeId} {x y : Operand} {k : IntKind} {p q : Int} (hx : opv l x = some (.int k p)) (hy : opv l y = some (.int k q)) :
    Exv P n l C ⟨dst, .binOp .eql t x y t', ty, pos, af, gd⟩ (.bool (decide (p = q))) := ex_bin hx hy fun w => by
  simp only [binOp, Op.intCmp]; by_cases h : p = q <;> simp [h]
theorem ex_neq {t t' : TypeId} {x y : Operand} {k : IntKind} {p q : Int} (hx : opv l x = some (.int k p)) (hy : opv l y = some (.int k q)) :
    Exv P n l C ⟨dst, .binOp .neq t x y t', ty, pos, af, gd⟩ (.bool (decide (p ≠ q))) := ex_bin hx hy fun w => by
  simp only [binOp, Op.intCmp]; by_cases h : p = q <;> simp [h]
/-- Sums that fit. -/
def I64 (x : Int) : Prop := -9223372036854775808 ≤ x ∧ x ≤ 9223372036854775807
theorem I64.wrap {x : Int} (h : I64 x) : IntKind.i64.wrap x = x := IntWalk.i64_in _ h
theorem ex_add {t t' : TypeId} {x y : Operand} {p q : Int} (hx : opv l x = some (.int .i64 p)) (hy : opv l y = some (.int .i64 q)) (h : I64 (p + q)) :
    Exv P n l C ⟨dst, .binOp .add t x y t', ty, pos, af, gd⟩ (.int .i64 (p + q)) := ex_bin hx hy fun w => by simp [binOp, Op.intArith, h.wrap]
theorem ex_sub {t t' : TypeId} {x y : Operand} {p q : Int} (hx : opv l x = some (.int .i64 p)) (hy : opv l y = some (.int .i64 q)) (h : I64 (p - q)) :
    Exv P n l C ⟨dst, .binOp .sub t x y t', ty, pos, af, gd⟩ (.int .i64 (p - q)) := ex_bin hx hy fun w => by simp [binOp, Op.intArith, h.wrap]
theorem ex_mul {t t' : TypeId} {x y : Operand} {p q : Int} (hx : opv l x = some (.int .i64 p)) (hy : opv l y = some (.int .i64 q)) (h : I64 (p * q)) :
    Exv P n l C ⟨dst, .binOp .mul t x y t', ty, pos, af, gd⟩ (.int .i64 (p * q)) := ex_bin hx hy fun w => by simp [binOp, Op.intArith, h.wrap]
theorem ex_not {t : TypeId} {x : Operand} {b : Bool} (hx : opv l x = some (.bool b)) : Exv P n l C ⟨dst, .unOp .not t x, ty, pos, af, gd⟩ (.bool (!b)) := fun w _ a ha => by
  simp only [execOp, ha.eval hx]; rfl
theorem ex_neg {t : TypeId} {x : Operand} {p : Int} (hx : opv l x = some (.int .i64 p)) (h : I64 (-p)) : Exv P n l C ⟨dst, .unOp .neg t x, ty, pos, af, gd⟩ (.int .i64 (-p)) := fun w _ a ha => by
  simp [execOp, ha.eval hx, Op.unary, Op.intArith, h.wrap]
/-- The negative as the machine has it: of the least number itself. -/
def wneg (x : Int) : Int := if x = -9223372036854775808 then x else -x
theorem wneg_I64 (x : Int) : I64 x → I64 (wneg x) := fun h => by unfold wneg; unfold I64 at *; split <;> omega
theorem wneg_eq {x : Int} (h : I64 (-x)) : wneg x = -x := by unfold wneg; unfold I64 at h; rw [if_neg (by omega)]
theorem ex_wneg {t : TypeId} {x : Operand} {p : Int} (hx : opv l x = some (.int .i64 p)) (h : I64 p) : Exv P n l C ⟨dst, .unOp .neg t x, ty, pos, af, gd⟩ (.int .i64 (wneg p)) := fun w _ a ha => by
  have : IntKind.i64.wrap (-p) = wneg p := by
    unfold wneg; split
    · rename_i e; subst e; decide
    · exact I64.wrap (by unfold I64 at *; omega)
  simp [execOp, ha.eval hx, Op.unary, Op.intArith, this]
theorem ex_eqv {t t' : TypeId} {x y : Operand} {u v : Value} {r : Bool} (hx : opv l x = some u) (hy : opv l y = some v) (hg : ∀ w, (eqGuard .eql t x y u v).run P w = .ok () w)
    (h : ∀ w, (binOp .eql t u v).run P w = .ok (.bool r) w) : Exv P n l C ⟨dst, .binOp .eql t x y t', ty, pos, af, gd⟩ (.bool r) := fun w _ a ha => by
  simp only [execOp, ha.eval hx, ha.eval hy, Sem.run_bind, hg, Result.andThen_ok, h]; rfl
theorem ex_neqv {t t' : TypeId} {x y : Operand} {u v : Value} {r : Bool} (hx : opv l x = some u) (hy : opv l y = some v) (hg : ∀ w, (eqGuard .neq t x y u v).run P w = .ok () w)
    (h : ∀ w, (binOp .neq t u v).run P w = .ok (.bool r) w) : Exv P n l C ⟨dst, .binOp .neq t x y t', ty, pos, af, gd⟩ (.bool r) := fun w _ a ha => by
  simp only [execOp, ha.eval hx, ha.eval hy, Sem.run_bind, hg, Result.andThen_ok, h]; rfl
theorem ex_beql {t t' : TypeId} {x y : Operand} {p q : Bool} (ht : P.underlying t = some .bool) (hx : opv l x = some (.bool p)) (hy : opv l y = some (.bool q)) :
    Exv P n l C ⟨dst, .binOp .eql t x y t', ty, pos, af, gd⟩ (.bool (p == q)) := ex_eqv hx hy (fun _ => rfl) fun w => by simp [binOp, run_equal_bool w t p q ht]
theorem ex_bneq {t t' : TypeId} {x y : Operand} {p q : Bool} (ht : P.underlying t = some .bool) (hx : opv l x = some (.bool p)) (hy : opv l y = some (.bool q)) :
    Exv P n l C ⟨dst, .binOp .neq t x y t', ty, pos, af, gd⟩ (.bool (!(p == q))) := ex_neqv hx hy (fun _ => rfl) fun w => by simp [binOp, run_equal_bool w t p q ht]
theorem ex_extract {x : Operand} {vs : Array Value} {i : Nat} {v : Value} (hx : opv l x = some (.tuple vs)) (hi : vs[i]? = some v) : Exv P n l C ⟨dst, .extract x i, ty, pos, af, gd⟩ v := fun w _ a ha => by
  simp only [execOp, ha.eval hx, Instr.extract, hi]; rfl
theorem ex_len {t : TypeId} {x : Operand} {ad : Option Addr} {k cap : Nat} {e : TypeId} (ht : P.underlying t = some (.slice e)) (hx : opv l x = some (.slice ad k cap)) :
    Exv P n l C ⟨dst, .call { callee := .builtin .len, args := #[x], argTypes := #[t] }, ty, pos, af, gd⟩ (.int .i64 k) := fun w _ a ha => by
  simp [execOp, resolve, invoke, builtin, Builtin.len_, ha.eval hx, run_underlying ht, goInt]
theorem ex_len_sl {α : Type} {c : Codec α} {H : View} {t : TypeId} {x : Operand} {v : Value} {xs : List α} {e : TypeId} (ht : P.underlying t = some (.slice e)) (hx : opv l x = some v) (hs : IsSl H c v xs) :
    Exv P n l C ⟨dst, .call { callee := .builtin .len, args := #[x], argTypes := #[t] }, ty, pos, af, gd⟩ (.int .i64 xs.length) := by
  obtain ⟨ad, cap, rfl, _⟩ := hs
  exact ex_len ht hx
theorem ex_len_own {α : Type} {c : Codec α} {H : View} {T : TypeId} {fp : Seg} {t : TypeId} {x : Operand} {v : Value} {xs : List α} {e : TypeId} (ht : P.underlying t = some (.slice e)) (hx : opv l x = some v) (hs : OwnSl H c T v xs fp) :
    Exv P n l C ⟨dst, .call { callee := .builtin .len, args := #[x], argTypes := #[t] }, ty, pos, af, gd⟩ (.int .i64 xs.length) := by
  rcases hs with ⟨rfl, rfl, _⟩ | ⟨b, cap, arr, cs, rest, rfl, _⟩
  · exact ex_len ht hx
  · exact ex_len ht hx
theorem IsSl.bound {α : Type} {c : Codec α} {H : View} {v : Value} {xs : List α} (hs : IsSl H c v xs) : (xs.length : Int) ≤ 9223372036854775807 := by
  obtain ⟨ad, cap, rfl, h1, h2, _⟩ := hs
  unfold maxLen at h2; omega
theorem OwnSl.bound {α : Type} {c : Codec α} {H : View} {T : TypeId} {fp : Seg} {v : Value} {xs : List α} (hs : OwnSl H c T v xs fp) : (xs.length : Int) ≤ 9223372036854775807 := by
  rcases hs with ⟨rfl, rfl, _⟩ | ⟨b, cap, arr, cs, rest, rfl, _, _, _, h1, h2, _⟩
  · simp
  · unfold maxLen at h2; omega

/-- The place of an element, in a slice that is shared. -/
theorem ex_index {α : Type} [Inhabited α] {c : Codec α} {H : View} {t e : TypeId} {x y : Operand} {v : Value} {xs : List α} {k : IntKind} {i : Int}
    (ht : P.underlying t = some (.slice e)) (hsz : ∀ w, (sizeOf e).run P w = .ok c.size w) (hx : opv l x = some v) (hy : opv l y = some (.int k i)) (hs : IsSl H c v xs) (h : 0 ≤ i ∧ i < xs.length) :
    ∃ p, IsPt H c p (ix xs i) ∧ Exv P n l C ⟨dst, .indexAddr t x y, ty, pos, af, gd⟩ p := by
  obtain ⟨ad, cap, rfl, h1, h2, h3, h4⟩ := hs
  rcases h4 with rfl | ⟨b, off, arr, T, fz, pre, cs, rest, rfl, e2, e3, e4, e5⟩
  · simp at h; omega
  · obtain ⟨a', m, b', f1, f2, f3, _⟩ := Codec.reps_get e5 (ix_get h.1 h.2)
    refine ⟨.pointer (some ⟨b, off + i.toNat * c.size, none⟩), ⟨b, _, arr, T, fz, pre ++ a', m, b' ++ rest, rfl, e2, by rw [e3, f1]; simp, by simp [e4, f2], f3⟩, fun w _ a ha => ?_⟩
    simp [execOp, Instr.indexAt, ha.eval hx, ha.eval hy, asIntOf, run_underlying ht, h, hsz, Addr.add_lit]
/-- The place of an element, in a slice that is owned. -/
theorem ex_index_own {α : Type} {c : Codec α} {H : View} {T : TypeId} {fp : Seg} {t e : TypeId} {x y : Operand} {v : Value} {xs : List α} {k : IntKind} {i : Int}
    (ht : P.underlying t = some (.slice e)) (hsz : ∀ w, (sizeOf e).run P w = .ok c.size w) (hx : opv l x = some v) (hy : opv l y = some (.int k i)) (hs : OwnSl H c T v xs fp) (h : 0 ≤ i ∧ i < xs.length) :
    ∃ p, OwnPt c v i.toNat p ∧ Exv P n l C ⟨dst, .indexAddr t x y, ty, pos, af, gd⟩ p := by
  rcases hs with ⟨rfl, rfl, _⟩ | ⟨b, cap, arr, cs, rest, rfl, _⟩
  · simp at h; omega
  · refine ⟨.pointer (some ⟨b, i.toNat * c.size, none⟩), ⟨b, _, _, rfl, rfl⟩, fun w _ a ha => ?_⟩
    simp [execOp, Instr.indexAt, ha.eval hx, ha.eval hy, asIntOf, run_underlying ht, h, hsz, Addr.add_lit]

theorem run_load_cell {t : TypeId} {ad : Addr} {u : Value} {w : World} (hag : ∀ w, (isAgg t).run P w = .ok false w) (hc : w.cell? ad = some u) : (loadVar t ad).run P w = .ok u w := by
  simp [loadVar, hag, hc]
/-- What lies at a place in the view: one cell. -/
theorem ex_load {α : Type} {c : Codec α} {w0 : World} {H : View} {L : Seg} {t : TypeId} {x : Operand} {p : Value} {z : α} (hag : ∀ w, (isAgg t).run P w = .ok false w) (h1 : c.size = 1)
    (hx : opv l x = some p) (hp : IsPt H c p z) : ∃ u, c.rep H [u] z ∧ Exv P n l (St w0 H L) ⟨dst, .load t x, ty, pos, af, gd⟩ u := by
  obtain ⟨b, off, arr, T, fz, pre, cs, rest, rfl, e2, e3, e4, e5⟩ := hp
  have hl := c.len e5
  rw [h1] at hl
  match cs, hl with
  | [u], _ =>
    refine ⟨u, e5, fun w hw a ha => ?_⟩
    have hb := hw.fits _ _ e2
    have hc : w.cell? ⟨b, off, none⟩ = some u := by
      simp only [World.cell?, hb]
      simp only [Option.isSome_none, Bool.false_eq_true, if_false]
      rw [← Array.getElem?_toList, e3, List.getElem?_append_right (by omega), e4]; simp
    simp [execOp, Instr.loadAt, Instr.sureAddr, ha.eval hx, run_load_cell hag hc]
theorem own_cell {α : Type} {c : Codec α} {H : View} {T : TypeId} {fp L : Seg} {v : Value} {xs : List α} {w0 w : World} {p : Value} {i : Nat} {z : α} (h1 : c.size = 1) (hw : St w0 H (fp ++ L) w) (hs : OwnSl H c T v xs fp) (hp : OwnPt c v i p) (hz : xs[i]? = some z) :
    ∃ b u, p = .pointer (some ⟨b, i, none⟩) ∧ c.rep H [u] z ∧ ∀ w, St w0 H (fp ++ L) w → w.cell? ⟨b, i, none⟩ = some u := by
  rcases hs with ⟨rfl, rfl, _⟩ | ⟨b, cap, arr, cs, rest, rfl, rfl, e3, e4, e5, e6, e7⟩
  · cases hz
  · obtain ⟨b', n', cap', hv, rfl⟩ := hp
    cases hv
    obtain ⟨a', m, b', f1, f2, f3, _⟩ := Codec.reps_get e7 hz
    have hl := c.len f3
    rw [h1] at hl f2
    match m, hl with
    | [u], _ =>
      refine ⟨b, u, by rw [h1, Nat.mul_one], f3, fun w hw => ?_⟩
      have hb := hw.own (b, .cells arr T (0, 0)) (by simp)
      simp only [World.cell?, hb]
      simp only [Option.isSome_none, Bool.false_eq_true, if_false]
      rw [← Array.getElem?_toList, e3, f1, List.append_assoc, List.getElem?_append_right (by omega), f2]; simp
theorem ex_load_own {α : Type} [Inhabited α] {c : Codec α} {w0 : World} {H : View} {T : TypeId} {fp L : Seg} {t : TypeId} {x : Operand} {v p : Value} {xs : List α} {i : Int} {w : World} (hw : St w0 H (fp ++ L) w)
    (hag : ∀ w, (isAgg t).run P w = .ok false w) (h1 : c.size = 1) (hx : opv l x = some p) (hs : OwnSl H c T v xs fp) (hp : OwnPt c v i.toNat p) (h : 0 ≤ i ∧ i < xs.length) :
    ∃ u, c.rep H [u] (ix xs i) ∧ Exv P n l (St w0 H (fp ++ L)) ⟨dst, .load t x, ty, pos, af, gd⟩ u := by
  obtain ⟨b, u, rfl, hr, hc⟩ := own_cell h1 hw hs hp (ix_get h.1 h.2)
  exact ⟨u, hr, fun w hw a ha => by simp [execOp, Instr.loadAt, Instr.sureAddr, ha.eval hx, run_load_cell hag (hc w hw)]⟩
end ex

/-! ### How a list of operations goes on -/
section go
variable {P : Program} {ops : Array Oper} {Q : Exit → Act → World → Prop} {n : Nat} {l : List (Nat × Value)} {rest : List Oper} {o : Oper} {w : World}
theorem WL.run {C : World → Prop} {d : Nat} {v : Value} (hw : C w) (hg : o.guard = none) (hd : o.dst = some d) (hdn : Nat.blt d n = true) (he : Exv P n l C o v)
    (k : WL P ops Q n ((d, v) :: l) rest w) : WL P ops Q n l (o :: rest) w := fun a ha => wpList_plain hg fun K hK => by
  unfold Oper.wp
  rw [he w hw a ha, Oper.upon_value, hd]
  exact hK _ _ (k _ (ha.put hdn v))
theorem WL.runx {C : World → Prop} {D : Value → Prop} {d : Nat} (hw : C w) (hg : o.guard = none) (hd : o.dst = some d) (hdn : Nat.blt d n = true) (he : ∃ v, D v ∧ Exv P n l C o v)
    (k : ∀ v, D v → WL P ops Q n ((d, v) :: l) rest w) : WL P ops Q n l (o :: rest) w :=
  let ⟨v, hv, hx⟩ := he; WL.run hw hg hd hdn hx (k v hv)
theorem guard_yields {a : Act} {j d : Nat} {b : Bool} (ha : Fr n l a) (hj : (ops[j]?).bind (·.dst) = some d) (hv : lk l d = some (.bool b)) : yielded ops a.tmps j = some b := by
  unfold yielded
  rw [hj, Option.bind_some, ha.val _ _ hv]
/-- A guarded operation that is carried out. -/
theorem WL.run_g {C : World → Prop} {d j dj : Nat} {v : Value} {b want : Bool} (hw : C w) (hg : o.guard = some (j, want)) (hj : (ops[j]?).bind (·.dst) = some dj) (hv : lk l dj = some (.bool b)) (hb : b = want)
    (hd : o.dst = some d) (hdn : Nat.blt d n = true) (he : Exv P n l C o v) (k : WL P ops Q n ((d, v) :: l) rest w) : WL P ops Q n l (o :: rest) w := fun a ha => wpList_step fun K hK => by
  subst hb
  rw [if_pos (by simp only [Region.wanted, hg, guard_yields ha hj hv, beq_self_eq_true])]
  unfold Oper.wp
  rw [he w hw a ha, Oper.upon_value, hd]
  exact hK _ _ (k _ (ha.put hdn v))
theorem WL.runx_g {C : World → Prop} {D : Value → Prop} {d j dj : Nat} {b want : Bool} (hw : C w) (hg : o.guard = some (j, want)) (hj : (ops[j]?).bind (·.dst) = some dj) (hv : lk l dj = some (.bool b)) (hb : b = want)
    (hd : o.dst = some d) (hdn : Nat.blt d n = true) (he : ∃ v, D v ∧ Exv P n l C o v) (k : ∀ v, D v → WL P ops Q n ((d, v) :: l) rest w) : WL P ops Q n l (o :: rest) w :=
  let ⟨v, h1, hx⟩ := he; WL.run_g hw hg hj hv hb hd hdn hx (k v h1)
/-- A guarded operation that is passed over. -/
theorem WL.skip_g {d j dj : Nat} {b want : Bool} (hg : o.guard = some (j, want)) (hj : (ops[j]?).bind (·.dst) = some dj) (hv : lk l dj = some (.bool b)) (hb : b = !want)
    (hd : o.dst = some d) (hdn : Nat.blt d n = true) (k : WL P ops Q n ((d, undef) :: l) rest w) : WL P ops Q n l (o :: rest) w := fun a ha => wpList_step fun K hK => by
  subst hb
  rw [if_neg (by simp [Region.wanted, hg, guard_yields ha hj hv]), hd]
  exact hK _ _ (k _ (ha.put hdn undef))
/-- A guarded operation that is carried out is as one without a guard. -/
theorem WL.unguard {dst : Option Tmp} {op : Op} {ty : TypeId} {pos : String} {af : Array Edge} {j dj : Nat} {b want : Bool} (hj : (ops[j]?).bind (·.dst) = some dj) (hv : lk l dj = some (.bool b)) (hb : b = want)
    (k : WL P ops Q n l (⟨dst, op, ty, pos, af, none⟩ :: rest) w) : WL P ops Q n l (⟨dst, op, ty, pos, af, some (j, want)⟩ :: rest) w := fun a ha => by
  have h := k a ha
  subst hb
  unfold wpList at h ⊢
  rw [if_pos (by simp [Region.wanted])] at h
  rw [if_pos (by simp only [Region.wanted, guard_yields ha hj hv, beq_self_eq_true])]
  exact h
/-- A region that is walked by itself: which frame it leaves, in the world as it was. -/
def At (n : Nat) (m : List (Nat × Value)) (w : World) : Exit → Act → World → Prop := fun e a w' => e = .normal ∧ w' = w ∧ Fr n m a
theorem WC.via {c : Code} {m : List (Nat × Value)} (h : WC P (At n m w) n l c w) (k : WQ Q .normal n m w) : WC P Q n l c w :=
  fun a ha => wp_mono (h a ha) fun e a' w' hq => by obtain ⟨rfl, rfl, hf⟩ := hq; exact k a' hf
theorem At.of {m : List (Nat × Value)} (hs : sub l m) : WQ (At n m w) .normal n l w := fun a ha => ⟨rfl, rfl, ha.of_sub hs⟩
/-- An operation that turns the world. -/
theorem WL.turn {d : Nat} {v : Value} {w' : World} (hg : o.guard = none) (hd : o.dst = some d) (hdn : Nat.blt d n = true) (he : ∀ a, Fr n l a → (execOp a.eval o).run P w = .ok (.value v) w')
    (k : WL P ops Q n ((d, v) :: l) rest w') : WL P ops Q n l (o :: rest) w := fun a ha => wpList_plain hg fun K hK => by
  unfold Oper.wp
  rw [he a ha, Oper.upon_value, hd]
  exact hK _ _ (k _ (ha.put hdn v))
theorem WL.turn0 {w' : World} (hg : o.guard = none) (hd : o.dst = none) (he : ∀ a, Fr n l a → (execOp a.eval o).run P w = .ok .skip w')
    (k : WL P ops Q n l rest w') : WL P ops Q n l (o :: rest) w := fun a ha => wpList_plain hg fun K hK => by
  unfold Oper.wp
  rw [he a ha, Oper.upon_skip, hd]
  exact hK _ _ (k _ ha)
/-- A call of a function. -/
theorem WL.call {d f : Nat} {args : Array Value} {R : Ending → World → Prop} (hg : o.guard = none) (hd : o.dst = some d) (hdn : Nat.blt d n = true)
    (he : ∀ a, Fr n l a → (execOp a.eval o).run P w = .ok (.enter f args) w) (hc : Calls P f args w R)
    (k : ∀ e w', R e w' → ∃ v, e = .returned v ∧ WL P ops Q n ((d, v) :: l) rest w') : WL P ops Q n l (o :: rest) w := fun a ha => wpList_plain hg fun K hK => by
  unfold Oper.wp
  rw [he a ha, Oper.upon_enter]
  refine hc.mono fun e w' hr => ?_
  obtain ⟨v, rfl, hv⟩ := k e w' hr
  rw [hd]
  exact hK _ _ (hv _ (ha.put hdn v))
theorem WL.call0 {f : Nat} {args : Array Value} {R : Ending → World → Prop} (hg : o.guard = none) (hd : o.dst = none)
    (he : ∀ a, Fr n l a → (execOp a.eval o).run P w = .ok (.enter f args) w) (hc : Calls P f args w R)
    (k : ∀ e w', R e w' → ∃ v, e = .returned v ∧ WL P ops Q n l rest w') : WL P ops Q n l (o :: rest) w := fun a ha => wpList_plain hg fun K hK => by
  unfold Oper.wp
  rw [he a ha, Oper.upon_enter]
  refine hc.mono fun e w' hr => ?_
  obtain ⟨v, rfl, hv⟩ := k e w' hr
  rw [hd]
  exact hK _ _ (hv _ ha)
def opvs (l : List (Nat × Value)) : List Operand → List Value → Prop
  | [], [] => True
  | x :: xs, v :: vs => opv l x = some v ∧ opvs l xs vs
  | _, _ => False
theorem Fr.evals {a : Act} (ha : Fr n l a) : ∀ {xs : List Operand} {vs : List Value}, opvs l xs vs → xs.map a.eval = vs
  | [], [], _ => rfl
  | _ :: _, _ :: _, h => by rw [List.map_cons, ha.eval h.1, ha.evals h.2]
  | [], _ :: _, h => h.elim
  | _ :: _, [], h => h.elim
theorem enters {dst : Option Tmp} {ty : TypeId} {pos : String} {af : Array Edge} {gd : Option (Nat × Bool)} {xs : List Operand} {vs : List Value} {ts : Array TypeId} {fo : Operand} {f : FuncId} {cap : Array Value}
    (hf : opv l fo = some (.func (.func f) #[] cap)) (hb : ∀ (args : Array Value) (w : World), (callFunc f args).run P w = .ok (.enter f args) w) (hv : opvs l xs vs) :
    ∀ a, Fr n l a → (execOp a.eval ⟨dst, .call { callee := .value fo, args := xs.toArray, argTypes := ts }, ty, pos, af, gd⟩).run P w = .ok (.enter f (vs.toArray ++ cap)) w := fun a ha => by
  have := ha.evals hv
  simp [execOp, resolve, Deferred.ofValue, ha.eval hf, invoke, this, hb]
end go

/-! ### A region that draws its order and whose operations are quiet -/
def Wq (P : Program) (ops : Array Oper) (C : World → Prop) (K : Act → Prop) (n : Nat) (l : List (Nat × Value)) (rest : List Oper) : Prop := ∀ a, Fr n l a → wpQuiet P ops C K rest a
section quiet
variable {P : Program} {ops : Array Oper} {C : World → Prop} {K : Act → Prop} {Q : Exit → Act → World → Prop} {n : Nat} {l : List (Nat × Value)} {rest : List Oper} {o : Oper} {w : World}
theorem WC.quiet {k : Nat} {ol : List Oper} (hm : P.follows .mixedOrders = true) (hB : Region.lexB .any ol.toArray = true) (hC : C { w with drawn := w.drawn + 1 })
    (h : Wq P ol.toArray C (fun a' => ∀ w', C w' → Q .normal a' w') n l ol) : WC P Q n l (.region k ol.toArray true) w :=
  fun a ha => wp_region_quiet hm hB hC (by simpa using h a ha)
theorem Wq.run {d : Nat} {v : Value} (hg : o.guard = none) (hd : o.dst = some d) (hdn : Nat.blt d n = true) (he : Exv P n l C o v) (k : Wq P ops C K n ((d, v) :: l) rest) : Wq P ops C K n l (o :: rest) :=
  fun a ha => wpQuiet_step fun K' hK => by
    simp only [Region.wanted, hg, if_true]
    refine ⟨v, fun w hw => ?_, ?_⟩
    · unfold Oper.quietAt; rw [he w hw a ha]; exact ⟨rfl, rfl⟩
    · rw [hd]; exact hK _ (k _ (ha.put hdn v))
theorem Wq.run_g {d j dj : Nat} {v : Value} {b want : Bool} (hg : o.guard = some (j, want)) (hj : (ops[j]?).bind (·.dst) = some dj) (hv : lk l dj = some (.bool b)) (hb : b = want)
    (hd : o.dst = some d) (hdn : Nat.blt d n = true) (he : Exv P n l C o v) (k : Wq P ops C K n ((d, v) :: l) rest) : Wq P ops C K n l (o :: rest) :=
  fun a ha => wpQuiet_step fun K' hK => by
    subst hb
    rw [if_pos (by simp only [Region.wanted, hg, guard_yields ha hj hv, beq_self_eq_true])]
    refine ⟨v, fun w hw => ?_, ?_⟩
    · unfold Oper.quietAt; rw [he w hw a ha]; exact ⟨rfl, rfl⟩
    · rw [hd]; exact hK _ (k _ (ha.put hdn v))
theorem Wq.skip_g {d j dj : Nat} {b want : Bool} (hg : o.guard = some (j, want)) (hj : (ops[j]?).bind (·.dst) = some dj) (hv : lk l dj = some (.bool b)) (hb : b = !want)
    (hd : o.dst = some d) (hdn : Nat.blt d n = true) (k : Wq P ops C K n ((d, undef) :: l) rest) : Wq P ops C K n l (o :: rest) := fun a ha => wpQuiet_step fun K' hK => by
  subst hb
  rw [if_neg (by simp [Region.wanted, hg, guard_yields ha hj hv]), hd]
  exact hK _ (k _ (ha.put hdn undef))
theorem Wq.runx {D : Value → Prop} {d : Nat} (hg : o.guard = none) (hd : o.dst = some d) (hdn : Nat.blt d n = true) (he : ∃ v, D v ∧ Exv P n l C o v) (k : ∀ v, D v → Wq P ops C K n ((d, v) :: l) rest) : Wq P ops C K n l (o :: rest) :=
  let ⟨v, hv, hx⟩ := he; Wq.run hg hd hdn hx (k v hv)
theorem Wq.runx_g {D : Value → Prop} {d j dj : Nat} {b want : Bool} (hg : o.guard = some (j, want)) (hj : (ops[j]?).bind (·.dst) = some dj) (hv : lk l dj = some (.bool b)) (hb : b = want)
    (hd : o.dst = some d) (hdn : Nat.blt d n = true) (he : ∃ v, D v ∧ Exv P n l C o v) (k : ∀ v, D v → Wq P ops C K n ((d, v) :: l) rest) : Wq P ops C K n l (o :: rest) :=
  let ⟨v, h1, hx⟩ := he; Wq.run_g hg hj hv hb hd hdn hx (k v h1)
theorem Wq.call {d f : Nat} {args : Array Value} {v : Value} (hg : o.guard = none) (hd : o.dst = some d) (hdn : Nat.blt d n = true)
    (he : ∀ w a, Fr n l a → (execOp a.eval o).run P w = .ok (.enter f args) w) (hc : ∀ w, C w → Calls P f args w fun e w' => e = .returned v ∧ C w')
    (k : Wq P ops C K n ((d, v) :: l) rest) : Wq P ops C K n l (o :: rest) := fun a ha => wpQuiet_step fun K' hK => by
  simp only [Region.wanted, hg, if_true]
  refine ⟨v, fun w hw => ?_, ?_⟩
  · unfold Oper.quietAt; rw [he w a ha]; exact ⟨rfl, hc w hw⟩
  · rw [hd]; exact hK _ (k _ (ha.put hdn v))
theorem Wq.unguard {dst : Option Tmp} {op : Op} {ty : TypeId} {pos : String} {af : Array Edge} {j dj : Nat} {b want : Bool} (hj : (ops[j]?).bind (·.dst) = some dj) (hv : lk l dj = some (.bool b)) (hb : b = want)
    (k : Wq P ops C K n l (⟨dst, op, ty, pos, af, none⟩ :: rest)) : Wq P ops C K n l (⟨dst, op, ty, pos, af, some (j, want)⟩ :: rest) := fun a ha => by
  have h := k a ha
  subst hb
  unfold wpQuiet at h ⊢
  rw [if_pos (by simp [Region.wanted])] at h
  rw [if_pos (by simp only [Region.wanted, guard_yields ha hj hv, beq_self_eq_true])]
  exact h
theorem Wq.nil (h : ∀ w', C w' → WQ Q .normal n l w') : Wq P ops C (fun a' => ∀ w', C w' → Q .normal a' w') n l [] := fun a ha => wpQuiet_nil fun w' hw => h w' hw a ha
theorem Wq.sub {m : List (Nat × Value)} (hs : Vc.sub l m) (h : Wq P ops C K n m rest) : Wq P ops C K n l rest := fun a ha => h a (ha.of_sub hs)
end quiet
end Go.Vc
