/- More operations of the calculus: blocks of an own variable or struct, fields, closures, errors, slices of slices, structs. -/
import Derived.Test.YtmdoicffgeihcaaGreatDoorMem
import Derived.Scope
import Derived.WideLaws
import Derived.Laws.Cover3
set_option linter.unusedVariables false
set_option linter.unusedSimpArgs false
namespace Go.Vc
open Go

theorem cells_one {v : Value} (h : v.oneCell' = true) : v.cells = #[v] := by cases v <;> first | rfl | cases h
theorem IsSl.one {α : Type} {H : View} {c : Codec α} {v : Value} {xs : List α} (h : IsSl H c v xs) : v.oneCell' = true := by obtain ⟨_, _, rfl, _⟩ := h; rfl
theorem OwnSl.one {α : Type} {H : View} {c : Codec α} {T : TypeId} {v : Value} {xs : List α} {fp : Seg} (h : OwnSl H c T v xs fp) : v.oneCell' = true := by
  rcases h with ⟨rfl, _⟩ | ⟨_, _, _, _, _, rfl, _⟩ <;> rfl
def ones : List Value → Prop
  | [] => True
  | v :: vs => v.oneCell' = true ∧ ones vs
theorem ones_mem : ∀ {vs : List Value}, ones vs → ∀ v ∈ vs, v.oneCell' = true
  | _ :: _, h, v, hv => by
    rcases List.mem_cons.1 hv with rfl | hv
    · exact h.1
    · exact ones_mem h.2 v hv

/-! ### Structs -/
def cPair {α β : Type} (c : Codec α) (d : Codec β) : Codec (α × β) where
  size := c.size + d.size
  rep := fun H cs x => ∃ a b, cs = a ++ b ∧ c.rep H a x.1 ∧ d.rep H b x.2
  len := fun ⟨a, b, e, h1, h2⟩ => by rw [e, List.length_append, c.len h1, d.len h2]
  mono := fun hle ⟨a, b, e, h1, h2⟩ => ⟨a, b, e, c.mono hle h1, d.mono hle h2⟩
  one := fun ⟨a, b, e, h1, h2⟩ u hu => by
    rw [e] at hu
    rcases List.mem_append.1 hu with hu | hu
    · exact c.one h1 u hu
    · exact d.one h2 u hu
/-- A field: from a cell on. -/
def Part {σ φ : Type} (c : Codec σ) (off : Nat) (d : Codec φ) (proj : σ → φ) : Prop := ∀ H cs x, c.rep H cs x → ∃ a m b, cs = a ++ (m ++ b) ∧ a.length = off ∧ d.rep H m (proj x)
theorem Part.fst {α β : Type} {c : Codec α} {d : Codec β} : Part (cPair c d) 0 c Prod.fst := fun H cs x ⟨a, b, e, h1, h2⟩ => ⟨[], a, b, by simpa using e, rfl, h1⟩
theorem Part.snd {α β : Type} {c : Codec α} {d : Codec β} : Part (cPair c d) c.size d Prod.snd := fun H cs x ⟨a, b, e, h1, h2⟩ => ⟨a, b, [], by simpa using e, c.len h1, h2⟩
theorem Part.next {α β φ : Type} {c : Codec α} {d : Codec β} {f : Codec φ} {off : Nat} {proj : β → φ} (h : Part d off f proj) : Part (cPair c d) (c.size + off) f (fun x => proj x.2) := fun H cs x ⟨a, b, e, h1, h2⟩ => by
  obtain ⟨a', m, b', e', hl, hr⟩ := h H b x.2 h2
  exact ⟨a ++ a', m, b', by rw [e, e', List.append_assoc], by rw [List.length_append, c.len h1, hl], hr⟩

/-! ### Errors: nil, or a number of one type -/
def errV (T : TypeId) : Option Int → Value
  | none => .nilIface
  | some n => .iface T (.int .i64 n)

theorem errV_one (T : TypeId) (e : Option Int) : (errV T e).oneCell' = true := by cases e <;> rfl
theorem I64.max {a b : Int} (h : I64 a) (k : I64 b) : I64 (max a b) := by unfold I64 at *; omega
theorem I64.min {a b : Int} (h : I64 a) (k : I64 b) : I64 (min a b) := by unfold I64 at *; omega
section ex
variable {P : Program} {n : Nat} {l : List (Nat × Value)} {C : World → Prop} {dst : Option Tmp} {ty : TypeId} {pos : String} {af : Array Edge} {gd : Option (Nat × Bool)} {w0 : World} {H : View} {L : Seg}

theorem block_cell {w : World} {b off : Nat} {arr : Array Value} {T : TypeId} {u : Value} (hw : St w0 H ([(b, .cells arr T (0, 0))] ++ L) w) (h : arr[off]? = some u) : w.cell? ⟨b, off, none⟩ = some u := by
  have hb := hw.own (b, .cells arr T (0, 0)) (by simp)
  simp only [World.cell?, hb]
  simpa using h
theorem ex_load_box {t : TypeId} {x : Operand} {b off : Nat} {arr : Array Value} {T : TypeId} {u : Value} (hag : ∀ w, (isAgg t).run P w = .ok false w) (hx : opv l x = some (.pointer (some ⟨b, off, none⟩))) (h : arr[off]? = some u) :
    Exv P n l (St w0 H ([(b, .cells arr T (0, 0))] ++ L)) ⟨dst, .load t x, ty, pos, af, gd⟩ u := fun w hw a ha => by
  simp [execOp, Instr.loadAt, Instr.sureAddr, ha.eval hx, run_load_cell hag (block_cell hw h)]
theorem run_loadCells_block {w : World} {b off k : Nat} {arr : Array Value} {T : TypeId} {cs : List Value} {fz : Nat × Nat} (hb : w.heap[b]? = some (.cells arr T fz)) (h : (arr.toList.drop off).take k = cs) (hl : cs.length = k) :
    (loadCells ⟨b, off, none⟩ k).run P w = .ok cs.toArray w := by
  rw [← hl]
  refine run_loadCells_list w _ cs fun j v hj => ?_
  rw [Addr.add_lit, cell_of_row w b _ arr T fz hb]
  rw [← h, List.getElem?_take, List.getElem?_drop] at hj
  split at hj
  · rwa [Array.getElem?_toList] at hj
  · cases hj
theorem ex_load_box_agg {t : TypeId} {x : Operand} {b off k : Nat} {arr : Array Value} {T : TypeId} {cs : List Value} (hag : ∀ w, (isAgg t).run P w = .ok true w) (hsz : ∀ w, (sizeOf t).run P w = .ok k w)
    (hx : opv l x = some (.pointer (some ⟨b, off, none⟩))) (h : (arr.toList.drop off).take k = cs) (hl : cs.length = k) :
    Exv P n l (St w0 H ([(b, .cells arr T (0, 0))] ++ L)) ⟨dst, .load t x, ty, pos, af, gd⟩ (.agg cs.toArray) := fun w hw a ha => by
  have hb := hw.own (b, .cells arr T (0, 0)) (by simp)
  simp [execOp, Instr.loadAt, Instr.sureAddr, ha.eval hx, loadVar, hag, hsz, run_loadCells_block hb h hl]
/-- A struct at a place in the view. -/
theorem ex_load_agg {α : Type} {c : Codec α} {t : TypeId} {x : Operand} {p : Value} {z : α} (hag : ∀ w, (isAgg t).run P w = .ok true w) (hsz : ∀ w, (sizeOf t).run P w = .ok c.size w)
    (hx : opv l x = some p) (hp : IsPt H c p z) : ∃ v, (∃ cs, v = .agg cs.toArray ∧ c.rep H cs z) ∧ Exv P n l (St w0 H L) ⟨dst, .load t x, ty, pos, af, gd⟩ v := by
  obtain ⟨b, off, arr, T, fz, pre, cs, rest, rfl, e2, e3, e4, e5⟩ := hp
  refine ⟨_, ⟨cs, rfl, e5⟩, fun w hw a ha => ?_⟩
  have hb := hw.fits _ _ e2
  have h : (arr.toList.drop off).take c.size = cs := by
    rw [e3, List.drop_append, List.drop_eq_nil_of_le (by omega), e4, Nat.sub_self, List.nil_append, List.drop_zero, ← c.len e5, List.take_left]
  simp [execOp, Instr.loadAt, Instr.sureAddr, ha.eval hx, loadVar, hag, hsz, run_loadCells_block hb h (c.len e5)]
theorem ex_fieldAddr {s : TypeId} {x : Operand} {b off o' f k : Nat} {fields : Array Field} {fd : Field} (hs : P.underlying s = some (.struct fields)) (hf : fields[f]? = some fd) (hsz : ∀ w, (sizeOf fd.type).run P w = .ok (k + 1) w)
    (hx : opv l x = some (.pointer (some ⟨b, off, none⟩))) (ho : off + fd.offset = o') : Exv P n l C ⟨dst, .fieldAddr s x f, ty, pos, af, gd⟩ (.pointer (some ⟨b, o', none⟩)) := fun w _ a ha => by
  subst ho
  simp [execOp, Instr.fieldAt, Instr.sureAddr, ha.eval hx, run_underlying hs, hf, fieldPlace, hsz, Addr.add_lit]
theorem ex_fieldAddr_pt {σ φ : Type} {c : Codec σ} {d : Codec φ} {proj : σ → φ} {s : TypeId} {x : Operand} {f k : Nat} {fields : Array Field} {fd : Field} {p : Value} {z : σ} (hs : P.underlying s = some (.struct fields)) (hf : fields[f]? = some fd)
    (hsz : ∀ w, (sizeOf fd.type).run P w = .ok (k + 1) w) (hx : opv l x = some p) (hp : IsPt H c p z) (hpart : Part c fd.offset d proj) :
    ∃ q, IsPt H d q (proj z) ∧ Exv P n l C ⟨dst, .fieldAddr s x f, ty, pos, af, gd⟩ q := by
  obtain ⟨b, off, arr, T, fz, pre, cs, rest, rfl, e2, e3, e4, e5⟩ := hp
  obtain ⟨a', m, b', f1, f2, f3⟩ := hpart H cs z e5
  refine ⟨.pointer (some ⟨b, off + fd.offset, none⟩), ⟨b, _, arr, T, fz, pre ++ a', m, b' ++ rest, rfl, e2, by rw [e3, f1]; simp, by simp [e4, f2], f3⟩, fun w _ a ha => ?_⟩
  simp [execOp, Instr.fieldAt, Instr.sureAddr, ha.eval hx, run_underlying hs, hf, fieldPlace, hsz, Addr.add_lit]
theorem ex_nilCheck {x : Operand} {a0 : Addr} (hx : opv l x = some (.pointer (some a0))) : Exv P n l C ⟨dst, .nilCheck x, ty, pos, af, gd⟩ (.pointer (some a0)) := fun w _ a ha => by
  simp only [execOp, ha.eval hx]; rfl
theorem ex_makeFunc {fn : Fn} {xs : List Operand} {vs : List Value} (hv : opvs l xs vs) : Exv P n l C ⟨dst, .makeFunc fn #[] xs.toArray, ty, pos, af, gd⟩ (.func fn #[] vs.toArray) := fun w _ a ha => by
  have := ha.evals hv
  simp [execOp, Instr.makeFunc, this]
theorem ex_makeIface {t : TypeId} {x : Operand} {v : Value} (hc : P.concrete t = true) (hx : opv l x = some v) : Exv P n l C ⟨dst, .makeInterface t x, ty, pos, af, gd⟩ (.iface t v) := fun w _ a ha => by
  simp [execOp, ha.eval hx, run_makeInterface w t v hc]
theorem ex_err_eql {t t' T : TypeId} {x : Operand} {e : Option Int} {v : Value} (ht : P.underlying t = some (.interface (P.methodsAt t))) (hx : opv l x = some v) (he : v = errV T e) :
    Exv P n l C ⟨dst, .binOp .eql t x (.const .nilIface) t', ty, pos, af, gd⟩ (.bool (decide (e = none))) := by
  subst he
  refine ex_eqv (u := errV T e) (v := .nilIface) hx rfl (fun w => ?_) fun w => ?_
  · cases e <;> simp [errV, eqGuard]
  · cases e with
    | none => simp [errV, run_eql_nil_nil w t ht]
    | some k => simp [errV, run_eql_held_nil w t T _ ht]
theorem ex_err_neq {t t' T : TypeId} {x : Operand} {e : Option Int} {v : Value} (ht : P.underlying t = some (.interface (P.methodsAt t))) (hx : opv l x = some v) (he : v = errV T e) :
    Exv P n l C ⟨dst, .binOp .neq t x (.const .nilIface) t', ty, pos, af, gd⟩ (.bool (decide (e ≠ none))) := by
  subst he
  refine ex_neqv (u := errV T e) (v := .nilIface) hx rfl (fun w => ?_) fun w => ?_
  · cases e <;> simp [errV, eqGuard]
  · cases e with
    | none => simp [errV, binOp, run_equal_nil_nil w t ht]
    | some k => simp [errV, binOp, run_equal_held_nil w t T _ ht]
theorem ex_max {x y : Operand} {p q : Int} {ts : Array TypeId} (hx : opv l x = some (.int .i64 p)) (hy : opv l y = some (.int .i64 q)) :
    Exv P n l C ⟨dst, .call { callee := .builtin .max, args := #[x, y], argTypes := ts }, ty, pos, af, gd⟩ (.int .i64 (max p q)) := fun w _ a ha => by
  have : (if q > p then q else p) = max p q := by omega
  simp [execOp, resolve, invoke, builtin, Builtin.max_, Builtin.max2, ha.eval hx, ha.eval hy, this]
theorem ex_min {x y : Operand} {p q : Int} {ts : Array TypeId} (hx : opv l x = some (.int .i64 p)) (hy : opv l y = some (.int .i64 q)) :
    Exv P n l C ⟨dst, .call { callee := .builtin .min, args := #[x, y], argTypes := ts }, ty, pos, af, gd⟩ (.int .i64 (min p q)) := fun w _ a ha => by
  have : (if q < p then q else p) = min p q := by omega
  simp [execOp, resolve, invoke, builtin, Builtin.min_, Builtin.min2, ha.eval hx, ha.eval hy, this]
/-- A slice against nil: if it is, it has no elements. -/
theorem ex_nil_eql {α : Type} {c : Codec α} {t t' e : TypeId} {x : Operand} {v : Value} {xs : List α} (ht : P.underlying t = some (.slice e)) (hx : opv l x = some v) (hs : IsSl H c v xs) :
    ∃ u, (∃ b, u = .bool b ∧ (b = true → xs = [])) ∧ Exv P n l C ⟨dst, .binOp .eql t x (.const (.slice none 0 0)) t', ty, pos, af, gd⟩ u := by
  obtain ⟨ad, cap, rfl, h1, h2, h3, h4⟩ := hs
  refine ⟨.bool ad.isNone, ⟨_, rfl, fun hn => ?_⟩, ?_⟩
  · have : ad = none := by simpa using hn
    have := h3 this
    exact List.length_eq_zero_iff.1 (by omega)
  · refine ex_eqv (u := .slice ad xs.length cap) (v := .slice none 0 0) hx rfl (fun w => by simp [eqGuard]) fun w => ?_
    simp [binOp, run_equal_slice_nil w t e ad xs.length cap ht]
theorem ex_nil_neq {α : Type} {c : Codec α} {t t' e : TypeId} {x : Operand} {v : Value} {xs : List α} (ht : P.underlying t = some (.slice e)) (hx : opv l x = some v) (hs : IsSl H c v xs) :
    ∃ u, (∃ b, u = .bool b ∧ (b = false → xs = [])) ∧ Exv P n l C ⟨dst, .binOp .neq t x (.const (.slice none 0 0)) t', ty, pos, af, gd⟩ u := by
  obtain ⟨ad, cap, rfl, h1, h2, h3, h4⟩ := hs
  refine ⟨.bool (!ad.isNone), ⟨_, rfl, fun hn => ?_⟩, ?_⟩
  · have : ad = none := by simpa using hn
    have := h3 this
    exact List.length_eq_zero_iff.1 (by omega)
  · refine ex_neqv (u := .slice ad xs.length cap) (v := .slice none 0 0) hx rfl (fun w => by simp [eqGuard]) fun w => ?_
    simp [binOp, run_equal_slice_nil w t e ad xs.length cap ht]
/-- 's[lo:hi]' of a shared slice. -/
theorem slice_sl {α : Type} {c : Codec α} {v : Value} {xs : List α} (hs : IsSl H c v xs) {lo hi : Nat} (h1 : lo ≤ hi) (h2 : hi ≤ xs.length) :
    ∃ ad cap, v = .slice ad xs.length cap ∧ hi ≤ cap ∧ IsSl H c (.slice (if cap = lo then ad else ad.map (·.add (lo * c.size))) (hi - lo) (cap - lo)) ((xs.take hi).drop lo) := by
  obtain ⟨ad, cap, rfl, h3, h4, h5, h6⟩ := hs
  refine ⟨ad, cap, rfl, by omega, _, _, by rw [List.length_drop, List.length_take, Nat.min_eq_left h2], by rw [List.length_drop, List.length_take]; omega, by omega, ?_, ?_⟩
  · intro hn
    split at hn
    · omega
    · have : ad = none := by simpa using hn
      have := h5 this; omega
  · rcases h6 with rfl | ⟨b, off, arr, T, fz, pre, cs, rest, rfl, e2, e3, e4, e5⟩
    · exact .inl (by simp)
    · by_cases hlh : lo = hi
      · exact .inl (List.drop_eq_nil_of_le (by rw [List.length_take]; omega))
      · rw [if_neg (by omega)]
        have hsp : xs = xs.take lo ++ ((xs.take hi).drop lo ++ xs.drop hi) := by
          conv => lhs; rw [← List.take_append_drop hi xs, ← List.take_append_drop lo (xs.take hi), List.take_take, Nat.min_eq_left h1, List.append_assoc]
        rw [hsp] at e5
        obtain ⟨a1, r1, g1, g2, g3⟩ := Codec.reps_split e5
        obtain ⟨a2, r2, g4, g5, g6⟩ := Codec.reps_split g3
        have hl := Codec.reps_length g2
        rw [List.length_take, Nat.min_eq_left (by omega)] at hl
        refine .inr ⟨b, off + lo * c.size, arr, T, fz, pre ++ a1, a2, r2 ++ rest, by simp [Addr.add_lit], e2, by rw [e3, g1, g4]; simp, by rw [List.length_append, e4, hl], g5⟩
theorem run_bound {lo : Int} {k : IntKind} {y : Nat} {code : BoundsCode} {w : World} (h0 : 0 ≤ lo) (h1 : lo ≤ y) : (Instr.sliceBound (.int k lo) y code).run P w = .ok lo.toNat w := by
  simp [Instr.sliceBound, asIntOf, h0, h1]
theorem ex_slice_hi {α : Type} {c : Codec α} {t e : TypeId} {x y : Operand} {v : Value} {xs : List α} {k : IntKind} {hi : Int} (ht : P.underlying t = some (.slice e)) (hsz : ∀ w, (sizeOf e).run P w = .ok c.size w) (hx : opv l x = some v)
    (hy : opv l y = some (.int k hi)) (hs : IsSl H c v xs) (h : 0 ≤ hi ∧ hi ≤ xs.length) : ∃ u, IsSl H c u (xs.take hi.toNat) ∧ Exv P n l C ⟨dst, .slice t x none (some y) none, ty, pos, af, gd⟩ u := by
  obtain ⟨ad, cap, rfl, h1, h2⟩ := slice_sl hs (lo := 0) (hi := hi.toNat) (by omega) (by omega)
  rw [List.drop_zero] at h2
  refine ⟨_, h2, fun w _ a ha => ?_⟩
  have hb := fun w => run_bound (P := P) (k := k) (y := cap) (code := .sliceAcap) (w := w) h.1 (show hi ≤ (cap : Int) by omega)
  simp [execOp, Instr.sliceAt, Instr.slice, ha.eval hx, ha.eval hy, run_underlying ht, Instr.sliceBounds, hb, hsz]
theorem ex_slice_lo {α : Type} {c : Codec α} {t e : TypeId} {x y : Operand} {v : Value} {xs : List α} {k : IntKind} {lo : Int} (ht : P.underlying t = some (.slice e)) (hsz : ∀ w, (sizeOf e).run P w = .ok c.size w) (hx : opv l x = some v)
    (hy : opv l y = some (.int k lo)) (hs : IsSl H c v xs) (h : 0 ≤ lo ∧ lo ≤ xs.length) : ∃ u, IsSl H c u (xs.drop lo.toNat) ∧ Exv P n l C ⟨dst, .slice t x (some y) none none, ty, pos, af, gd⟩ u := by
  obtain ⟨ad, cap, rfl, h1, h2⟩ := slice_sl hs (lo := lo.toNat) (hi := xs.length) (by omega) (Nat.le_refl _)
  rw [List.take_length] at h2
  refine ⟨_, h2, fun w _ a ha => ?_⟩
  have hb := fun w => run_bound (P := P) (k := k) (y := xs.length) (code := .sliceB) (w := w) h.1 h.2
  simp [execOp, Instr.sliceAt, Instr.slice, ha.eval hx, ha.eval hy, run_underlying ht, Instr.sliceBounds, hb, hsz]
theorem ex_slice_lohi {α : Type} {c : Codec α} {t e : TypeId} {x y z : Operand} {v : Value} {xs : List α} {k k' : IntKind} {lo hi : Int} (ht : P.underlying t = some (.slice e)) (hsz : ∀ w, (sizeOf e).run P w = .ok c.size w) (hx : opv l x = some v)
    (hy : opv l y = some (.int k lo)) (hz : opv l z = some (.int k' hi)) (hs : IsSl H c v xs) (h : 0 ≤ lo ∧ lo ≤ hi ∧ hi ≤ xs.length) : ∃ u, IsSl H c u ((xs.take hi.toNat).drop lo.toNat) ∧ Exv P n l C ⟨dst, .slice t x (some y) (some z) none, ty, pos, af, gd⟩ u := by
  obtain ⟨ad, cap, rfl, h1, h2⟩ := slice_sl hs (lo := lo.toNat) (hi := hi.toNat) (by omega) (by omega)
  refine ⟨_, h2, fun w _ a ha => ?_⟩
  have hb := fun w => run_bound (P := P) (k := k') (y := cap) (code := .sliceAcap) (w := w) (by omega : 0 ≤ hi) (show hi ≤ (cap : Int) by omega)
  have hb2 := fun w => run_bound (P := P) (k := k) (y := hi.toNat) (code := .sliceB) (w := w) h.1 (by omega)
  simp [execOp, Instr.sliceAt, Instr.slice, ha.eval hx, ha.eval hy, ha.eval hz, run_underlying ht, Instr.sliceBounds, hb, hb2, hsz]
end ex

theorem Exv.of {P : Program} {n : Nat} {l : List (Nat × Value)} {C C' : World → Prop} {o : Oper} {v : Value} (h : Exv P n l C' o v) (hc : ∀ w, C w → C' w) : Exv P n l C o v := fun w hw => h w (hc w hw)
theorem ofx {P : Program} {n : Nat} {l : List (Nat × Value)} {C C' : World → Prop} {o : Oper} {D : Value → Prop} (h : ∃ v, D v ∧ Exv P n l C' o v) (hc : ∀ w, C w → C' w) : ∃ v, D v ∧ Exv P n l C o v := let ⟨v, h1, h2⟩ := h; ⟨v, h1, h2.of hc⟩
/-- What of an owned slice stands behind in an append. -/
theorem own_sub {α : Type} {P : Program} {H : View} {c : Codec α} {T : TypeId} {v : Value} {xs : List α} {fp : Seg} (hs : OwnSl H c T v xs fp) {lo hi : Nat} (h1 : lo ≤ hi) (h2 : hi ≤ xs.length) :
    ∃ ad cap, v = .slice ad xs.length cap ∧ hi ≤ cap ∧ ∀ {w0 w : World} {L : Seg}, St w0 H (fp ++ L) w → Src c H P w (.slice (if cap = lo then ad else ad.map (·.add (lo * c.size))) (hi - lo) (cap - lo)) ((xs.take hi).drop lo) := by
  rcases hs with ⟨rfl, rfl, rfl⟩ | ⟨b, cap, arr, cs, rest, rfl, rfl, e3, e4, e5, e6, e7⟩
  · simp at h2; subst h2
    have : lo = 0 := by omega
    subst this
    exact ⟨none, 0, rfl, Nat.le_refl _, fun _ => .inl ⟨rfl, _, _, rfl⟩⟩
  · refine ⟨_, cap, rfl, by omega, fun {w0 w L} hw => ?_⟩
    by_cases hlh : lo = hi
    · subst hlh
      refine .inl ⟨List.drop_eq_nil_of_le (by rw [List.length_take]; omega), _, _, by rw [Nat.sub_self]⟩
    · rw [if_neg (by omega)]
      have hsp : xs = xs.take lo ++ ((xs.take hi).drop lo ++ xs.drop hi) := by
        conv => lhs; rw [← List.take_append_drop hi xs, ← List.take_append_drop lo (xs.take hi), List.take_take, Nat.min_eq_left h1, List.append_assoc]
      rw [hsp] at e7
      obtain ⟨a1, r1, g1, g2, g3⟩ := Codec.reps_split e7
      obtain ⟨a2, r2, g4, g5, g6⟩ := Codec.reps_split g3
      have hl := Codec.reps_length g2
      rw [List.length_take, Nat.min_eq_left (by omega)] at hl
      have hlen : ((xs.take hi).drop lo).length = hi - lo := by rw [List.length_drop, List.length_take, Nat.min_eq_left h2]
      refine .inr ⟨⟨b, lo * c.size, none⟩, hi - lo, cap - lo, a2, by rw [hlen]; simp [Addr.add_lit], hlen.symm, by omega, g5, fun j u hj => ?_⟩
      have hb := hw.own (b, .cells arr T (0, 0)) (by simp)
      rw [Addr.add_lit]
      simp only [World.cell?, hb]
      simp only [Option.isSome_none, Bool.false_eq_true, if_false]
      have hj' := (List.getElem?_eq_some_iff.1 hj).1
      rw [← Array.getElem?_toList, e3, g1, g4, List.append_assoc, List.getElem?_append_right (by omega), List.append_assoc, List.getElem?_append_left (by omega)]
      rw [← hj]; congr 1; omega
section
variable {P : Program} {n : Nat} {l : List (Nat × Value)} {C : World → Prop} {dst : Option Tmp} {ty : TypeId} {pos : String} {af : Array Edge} {gd : Option (Nat × Bool)} {H : View}
def SrcOf {α : Type} (c : Codec α) (H : View) (P : Program) (fp : Seg) (u : Value) (ys : List α) : Prop := ∀ {w0 w : World} {L : Seg}, St w0 H (fp ++ L) w → Src c H P w u ys
theorem ex_slice_hi_own {α : Type} {c : Codec α} {T : TypeId} {fp : Seg} {t e : TypeId} {x y : Operand} {v : Value} {xs : List α} {k : IntKind} {hi : Int} (ht : P.underlying t = some (.slice e)) (hsz : ∀ w, (sizeOf e).run P w = .ok c.size w) (hx : opv l x = some v)
    (hy : opv l y = some (.int k hi)) (hs : OwnSl H c T v xs fp) (h : 0 ≤ hi ∧ hi ≤ xs.length) : ∃ u, SrcOf c H P fp u (xs.take hi.toNat) ∧ Exv P n l C ⟨dst, .slice t x none (some y) none, ty, pos, af, gd⟩ u := by
  obtain ⟨ad, cap, rfl, h1, h2⟩ := own_sub (P := P) hs (lo := 0) (hi := hi.toNat) (by omega) (by omega)
  refine ⟨.slice (if cap = 0 then ad else ad.map (·.add (0 * c.size))) (hi.toNat - 0) (cap - 0), fun {w0 w L} hw => by have := h2 hw; rwa [List.drop_zero] at this, fun w _ a ha => ?_⟩
  have hb := fun w => run_bound (P := P) (k := k) (y := cap) (code := .sliceAcap) (w := w) h.1 (show hi ≤ (cap : Int) by omega)
  simp [execOp, Instr.sliceAt, Instr.slice, ha.eval hx, ha.eval hy, run_underlying ht, Instr.sliceBounds, hb, hsz]
theorem ex_slice_lo_own {α : Type} {c : Codec α} {T : TypeId} {fp : Seg} {t e : TypeId} {x y : Operand} {v : Value} {xs : List α} {k : IntKind} {lo : Int} (ht : P.underlying t = some (.slice e)) (hsz : ∀ w, (sizeOf e).run P w = .ok c.size w) (hx : opv l x = some v)
    (hy : opv l y = some (.int k lo)) (hs : OwnSl H c T v xs fp) (h : 0 ≤ lo ∧ lo ≤ xs.length) : ∃ u, SrcOf c H P fp u (xs.drop lo.toNat) ∧ Exv P n l C ⟨dst, .slice t x (some y) none none, ty, pos, af, gd⟩ u := by
  obtain ⟨ad, cap, rfl, h1, h2⟩ := own_sub (P := P) hs (lo := lo.toNat) (hi := xs.length) (by omega) (Nat.le_refl _)
  refine ⟨.slice (if cap = lo.toNat then ad else ad.map (·.add (lo.toNat * c.size))) (xs.length - lo.toNat) (cap - lo.toNat), fun {w0 w L} hw => by have := h2 hw; rwa [List.take_length] at this, fun w _ a ha => ?_⟩
  have hb := fun w => run_bound (P := P) (k := k) (y := xs.length) (code := .sliceB) (w := w) h.1 h.2
  simp [execOp, Instr.sliceAt, Instr.slice, ha.eval hx, ha.eval hy, run_underlying ht, Instr.sliceBounds, hb, hsz]
end
section rules
variable {P : Program} {ops : Array Oper} {Q : Exit → Act → World → Prop} {n : Nat} {l : List (Nat × Value)} {rest : List Oper} {w0 w : World} {H : View} {L : Seg} {ty : TypeId} {pos : String} {af : Array Edge}
theorem WL.alloc {d : Nat} {t : TypeId} {z : Value} {arr : Array Value} (hdn : Nat.blt d n = true) (hz : ∀ w, (zeroValue t).run P w = .ok z w) (hc : z.cells = arr) (hw : St w0 H L w)
    (k : ∀ b w', St w0 H ([(b, .cells arr t (0, 0))] ++ L) w' → WL P ops Q n ((d, .pointer (some ⟨b, 0, none⟩)) :: l) rest w') : WL P ops Q n l (⟨some d, .alloc t, ty, pos, af, none⟩ :: rest) w := by
  subst hc
  refine WL.turn rfl rfl hdn (fun a ha => ?_) (k _ _ (hw.alloc _))
  simp [execOp, Instr.alloc, hz, newVar, newRow]
theorem WL.box {d : Nat} {t : TypeId} {x : Operand} {v : Value} {arr : Array Value} (hdn : Nat.blt d n = true) (hx : opv l x = some v) (hc : v.cells = arr) (hw : St w0 H L w)
    (k : ∀ b w', St w0 H ([(b, .cells arr t (0, 0))] ++ L) w' → WL P ops Q n ((d, .pointer (some ⟨b, 0, none⟩)) :: l) rest w') : WL P ops Q n l (⟨some d, .box t x, ty, pos, af, none⟩ :: rest) w := by
  subst hc
  refine WL.turn rfl rfl hdn (fun a ha => ?_) (k _ _ (hw.alloc _))
  simp [execOp, Instr.box, newVar, newRow, ha.eval hx]
/-- A store into an own block. -/
theorem run_store_block {b off : Nat} {t : TypeId} {T : TypeId} {arr arr' : Array Value} {pre old rst cs : List Value} {v : Value} (hsz : ∀ w, (sizeOf t).run P w = .ok cs.length w) (hc : v.cells.toList = cs) (hone : ones cs)
    (hsp : arr.toList = pre ++ (old ++ rst)) (hpre : pre.length = off) (hold : old.length = cs.length) (harr : (pre ++ (cs ++ rst)).toArray = arr') (hw : St w0 H ([(b, .cells arr T (0, 0))] ++ L) w) :
    ∃ w', (storeVar t ⟨b, off, none⟩ v).run P w = .ok () w' ∧ St w0 H ([(b, .cells arr' T (0, 0))] ++ L) w' := by
  have hb := hw.own (b, .cells arr T (0, 0)) (by simp)
  have hlen : arr.size = off + (cs.length + rst.length) := by rw [← Array.length_toList, hsp]; simp [hpre, hold]
  have hr := run_storeCells_at P b off T cs 0 arr w hb (by omega) (ones_mem hone)
  simp only [Nat.add_zero] at hr
  have hsize : v.cells.size = cs.length := by rw [← hc, Array.length_toList]
  have e : (arr.toList.take off ++ cs ++ arr.toList.drop (off + cs.length)).toArray = arr' := by
    rw [← harr, hsp]
    subst hpre
    rw [List.take_left, ← hold, ← List.drop_drop, List.drop_left, List.drop_left, List.append_assoc]
  rw [e] at hr
  refine ⟨w.setRow b arr', ?_, hw.write rfl rfl rfl (by simp [World.setRow]) (setRow_heap w b arr arr' T _ hb) (fun k hk => setRow_other w b k _ hk)⟩
  simp [storeVar, hsz, hsize, hc, hr]
theorem WL.store_box {b off : Nat} {t : TypeId} {T : TypeId} {x y : Operand} {arr arr' : Array Value} {pre old rst cs : List Value} {v : Value} (hsz : ∀ w, (sizeOf t).run P w = .ok cs.length w) (hx : opv l x = some (.pointer (some ⟨b, off, none⟩))) (hy : opv l y = some v)
    (hc : v.cells.toList = cs) (hone : ones cs) (hsp : arr.toList = pre ++ (old ++ rst)) (hpre : pre.length = off) (hold : old.length = cs.length) (harr : (pre ++ (cs ++ rst)).toArray = arr') (hw : St w0 H ([(b, .cells arr T (0, 0))] ++ L) w)
    (k : ∀ w', St w0 H ([(b, .cells arr' T (0, 0))] ++ L) w' → WL P ops Q n l rest w') : WL P ops Q n l (⟨none, .store t x y, ty, pos, af, none⟩ :: rest) w := by
  obtain ⟨w', hr, hst⟩ := run_store_block (P := P) (t := t) hsz hc hone hsp hpre hold harr hw
  refine WL.turn0 rfl rfl (fun a ha => ?_) (k w' hst)
  simp [execOp, Instr.storeAt, Instr.sureAddr, ha.eval hx, ha.eval hy, hr]
theorem enters_c {dst : Option Tmp} {gd : Option (Nat × Bool)} {xs : List Operand} {vs caps : List Value} {ts : Array TypeId} {fo : Operand} {f : FuncId}
    (hf : opv l fo = some (.func (.func f) #[] caps.toArray)) (hb : ∀ (args : Array Value) (w : World), (callFunc f args).run P w = .ok (.enter f args) w) (hv : opvs l xs vs) :
    ∀ a, Fr n l a → (execOp a.eval ⟨dst, .call { callee := .value fo, args := xs.toArray, argTypes := ts }, ty, pos, af, gd⟩).run P w = .ok (.enter f (vs ++ caps).toArray) w := fun a ha => by
  have := enters (P := P) (w := w) (dst := dst) (ty := ty) (pos := pos) (af := af) (gd := gd) (ts := ts) hf hb hv a ha
  simpa using this
theorem WC.scope {c : Code} (h : WC P (Exit.noGoto Q) n l c w) : WC P Q n l (.scope c) w := fun a ha => wp_scope_straight (h a ha)
theorem WQ.inScope {e : Exit} (he : ∀ j, e ≠ .goto j) (h : WQ Q e n l w) : WQ (Exit.noGoto Q) e n l w := fun a ha => by
  cases e <;> first | exact absurd rfl (he _) | exact h a ha
end rules
theorem St.assoc {w0 : World} {H : View} {a b L : Seg} {w : World} (h : St w0 H ((a ++ b) ++ L) w) : St w0 H (a ++ (b ++ L)) w := by rwa [List.append_assoc] at h
theorem St.assoc' {w0 : World} {H : View} {a b L : Seg} {w : World} (h : St w0 H (a ++ (b ++ L)) w) : St w0 H ((a ++ b) ++ L) w := by rwa [List.append_assoc]
/-! ### Structs built, slices of structs built -/
theorem foldl_put : ∀ (ys : List Value) (j : Nat) (off : Nat) (cells : Array Value), off + j + ys.length ≤ cells.size →
    ((ys.zipIdx j).foldl (fun cs (x : Value × Nat) => cs.setIfInBounds (off + x.2) x.1) cells).toList = cells.toList.take (off + j) ++ (ys ++ cells.toList.drop (off + j + ys.length))
  | [], j, off, cells, _ => by simp
  | y :: ys, j, off, cells, h => by
    simp only [List.length_cons] at h
    rw [List.zipIdx_cons, List.foldl_cons, foldl_put ys (j + 1) off _ (by simp; omega)]
    simp only [Array.toList_setIfInBounds, List.length_cons]
    have hkl : off + j < cells.toList.length := by rw [Array.length_toList]; omega
    have e1 : (cells.toList.set (off + j) y).take (off + (j + 1)) = cells.toList.take (off + j) ++ [y] := by
      have hlt : (cells.toList.take (off + j)).length = off + j := by rw [List.length_take]; omega
      rw [show off + (j + 1) = off + j + 1 by omega, List.take_set, List.take_succ_eq_append_getElem hkl, List.set_append_right _ _ (by omega), hlt, Nat.sub_self]
      rfl
    have e2 : (cells.toList.set (off + j) y).drop (off + (j + 1) + ys.length) = cells.toList.drop (off + j + (ys.length + 1)) := by
      rw [List.drop_set_of_lt (by omega)]; congr 1; omega
    rw [e1, e2, List.append_assoc]
    rfl
theorem array_put (ys : Array Value) (off : Nat) (cells : Array Value) (h : off + ys.size ≤ cells.size) :
    (ys.zipIdx.foldl (fun cs (x : Value × Nat) => cs.setIfInBounds (off + x.2) x.1) cells) = (cells.toList.take off ++ (ys.toList ++ cells.toList.drop (off + ys.size))).toArray := by
  apply Array.ext'
  rw [← Array.foldl_toList, Array.toList_zipIdx]
  have := foldl_put ys.toList 0 off cells (by simpa using h)
  simpa using this
theorem fill_rows (size : Nat) : ∀ (vs : List Value) (css : List (List Value)) (k : Nat) (cells : Array Value), vs.map (fun v => v.cells.toList) = css → (∀ cs ∈ css, cs.length = size) → (k + vs.length) * size ≤ cells.size →
    Instr.fill (fun i => some (i * size, size)) cells (pairsFrom k vs) = some (cells.toList.take (k * size) ++ (css.flatten ++ cells.toList.drop ((k + vs.length) * size))).toArray
  | [], _, k, cells, hc, _, _ => by subst hc; simp [pairsFrom, Instr.fill]
  | v :: vs, css, k, cells, hc, hl, hk => by
    subst hc
    have hs : v.cells.size = size := by have := hl v.cells.toList (by simp); simpa using this
    simp only [List.length_cons] at hk
    have hle : (k + 1) * size ≤ cells.size := Nat.le_trans (Nat.mul_le_mul_right _ (by omega)) hk
    have hks : (k + 1) * size = k * size + size := by rw [Nat.add_mul, Nat.one_mul]
    simp only [pairsFrom, Instr.fill]
    rw [if_neg (by simp [hs]; omega), array_put _ _ _ (by rw [hs]; omega)]
    rw [fill_rows size vs _ (k + 1) _ rfl (fun cs h => hl cs (by simp only [List.map_cons, List.mem_cons]; exact .inr h)) (by
      simp only [List.size_toArray, List.length_append, List.length_take, List.length_drop, Array.length_toList, hs]
      have e : (k + 1 + vs.length) * size = (k + (vs.length + 1)) * size := by congr 1; omega
      rw [e]; omega)]
    congr 2
    have hkl : (cells.toList.take (k * size)).length = k * size := by rw [List.length_take, Array.length_toList]; omega
    have hvl : v.cells.toList.length = size := by simpa using hs
    simp only [List.map_cons, List.flatten_cons]
    have e1 : (cells.toList.take (k * size) ++ (v.cells.toList ++ cells.toList.drop (k * size + v.cells.size))).take ((k + 1) * size) = cells.toList.take (k * size) ++ v.cells.toList := by
      rw [← List.append_assoc, List.take_left' (by rw [List.length_append, hkl, hvl, hks])]
    have e2 : (cells.toList.take (k * size) ++ (v.cells.toList ++ cells.toList.drop (k * size + v.cells.size))).drop ((k + 1 + vs.length) * size) = cells.toList.drop ((k + (vs.length + 1)) * size) := by
      have e : (k + 1 + vs.length) * size = (k + 1) * size + vs.length * size := by rw [Nat.add_mul]
      have e' : (k + (vs.length + 1)) * size = (k + 1) * size + vs.length * size := by rw [← e]; congr 1; omega
      rw [e, e', ← List.append_assoc, ← List.drop_drop, List.drop_left' (by rw [List.length_append, hkl, hvl, hks]), List.drop_drop, hs, hks]
    rw [e1, e2]
    simp
/-- A slice of some elements, of whatever size. -/
theorem WL.builds {P : Program} {ops : Array Oper} {Q : Exit → Act → World → Prop} {n : Nat} {l : List (Nat × Value)} {rest : List Oper} {w0 w : World} {H : View} {L : Seg} {ty : TypeId} {pos : String} {af : Array Edge}
    {α : Type} {c : Codec α} {xs : List α} {vs : List Value} {css : List (List Value)} {d k : Nat} {t e : TypeId} {z : Value} {bytes : Nat} {ps : List (Nat × Operand)} (hdn : Nat.blt d n = true) (ht : P.underlying t = some (.slice e))
    (hi : (P.info? e).map (fun i => (i.zero, i.size, i.bytes)) = some (some z, c.size, bytes)) (hk : ps.map (·.1) = List.range' 0 k) (hv : opvs l (ps.map (·.2)) vs) (hsmall : Nat.ble (k * c.size) 16777216 = true) (hpos : 0 < c.size)
    (hcs : vs.map (fun v => v.cells.toList) = css) (hall : ∀ cs ∈ css, cs.length = c.size) (hr : c.reps H css.flatten xs) (hw : St w0 H L w)
    (hlen : vs.length = k) (h0 : k ≠ 0)
    (go : ∀ v' w' fp', OwnSl H c e v' xs fp' → St w0 H (fp' ++ L) w' → WL P ops Q n ((d, v') :: l) rest w') :
    WL P ops Q n l (⟨some d, .buildSlice t k ps.toArray, ty, pos, af, none⟩ :: rest) w := by
  obtain ⟨i, hI, hz, h3, h2⟩ := info_parts hi
  have hpl : ps.length = k := by have := opvs_length hv; simp at this; omega
  have hfl : css.flatten.length = k * c.size := by
    rw [List.length_flatten, ← hlen, ← List.length_map (f := fun v : Value => v.cells.toList), hcs]
    clear hcs hr
    induction css with
    | nil => simp
    | cons x css ih => simp [ih (fun cs h => hall cs (by simp [h])), hall x (by simp), Nat.add_mul]; omega
  have hxl : xs.length = k := by
    have := Codec.reps_length hr; rw [hfl] at this; exact (Nat.eq_of_mul_eq_mul_right hpos this).symm
  have hfill := fill_rows c.size vs css 0 ((Array.range (k * c.size)).map (z.cells[· % z.cells.size]!)) hcs hall (by simp [hlen])
  have hf2 : ((Array.range (k * c.size)).map (z.cells[· % z.cells.size]!)).toList.drop ((0 + vs.length) * c.size) = [] := by
    rw [List.drop_eq_nil_iff]; simp [hlen]
  rw [hf2] at hfill
  simp only [Nat.zero_mul, List.take_zero, List.nil_append, List.append_nil] at hfill
  have hk16 : k * c.size ≤ 16777216 := by simpa using hsmall
  have hb : ¬ (k * c.size > 2 ^ 24) := by omega
  have hkm : k ≤ maxLen := by unfold maxLen; have := Nat.le_mul_of_pos_right k hpos; omega
  have hkne : ¬ (k * c.size = 0) := by
    have := Nat.mul_pos (Nat.pos_of_ne_zero h0) hpos; omega
  refine WL.turn (w' := w.alloc (.cells css.flatten.toArray e)) (v := .slice (some ⟨w.heap.size, 0, none⟩) k k) rfl rfl hdn (fun a ha => ?_)
    (go _ _ _ (.inr ⟨_, k, css.flatten.toArray, css.flatten, [], by rw [hxl], rfl, by simp, by simp [hfl], by omega, hkm, hr⟩) (hw.alloc _))
  have he := evals_pairs ha ps vs 0 (by rw [hpl]; exact hk) hv
  simp only [execOp, Instr.buildSlice]
  simp [run_underlying ht, sizeOf, typeInfo, hI, h3, zeroValue, hz, newRow, hb, hkne, he, hfill]
/-- A struct, written out. -/
theorem ex_build {P : Program} {n : Nat} {l : List (Nat × Value)} {C : World → Prop} {dst : Option Tmp} {ty : TypeId} {pos : String} {af : Array Edge} {gd : Option (Nat × Bool)} {t : TypeId} {fields : Array Field} {places : Array (Nat × Nat)} {zero : Value} {zc cs : Array Value} {is : List Nat} {vs : List Value} {ps : List (Nat × Operand)}
    (ht : P.underlying t = some (.struct fields)) (hz : ∀ w, (zeroValue t).run P w = .ok zero w) (hp : ∀ w, (Array.mapM (fun f : Field => Prod.mk f.offset <$> sizeOf f.type) fields).run P w = .ok places w)
    (hi : ps.map (·.1) = is) (hv : opvs l (ps.map (·.2)) vs) (hzc : zero.cells = zc) (hf : Instr.fill (places[·]?) zc (is.zip vs) = some cs) :
    Exv P n l C ⟨dst, .build t ps.toArray, ty, pos, af, gd⟩ (.agg cs) := fun w _ a ha => by
  have he : ps.map (fun p => (p.1, a.eval p.2)) = is.zip vs := by
    have := ha.evals hv
    rw [← hi, ← this]
    clear hi hv hf this
    induction ps with
    | nil => rfl
    | cons p ps ih => simp [ih]
  simp [execOp, Instr.build, hz, run_underlying ht, hp, he, hzc, hf]
end Go.Vc
