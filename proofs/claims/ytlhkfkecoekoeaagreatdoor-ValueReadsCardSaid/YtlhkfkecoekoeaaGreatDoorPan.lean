/- Panics that are caught further out; results that lie in cells; what is done with values that hold values. -/
import Derived.Test.YtlhkfkecoekoeaaGreatDoorVal
import Derived.Laws.BytesString
set_option linter.unusedVariables false
set_option linter.unusedSimpArgs false
namespace Go.Vc
open Go
section pan
variable {P : Program} {ops : Array Oper} {Q : Exit → Act → World → Prop} {n : Nat} {l : List (Nat × Value)} {rest : List Oper} {o : Oper} {w : World}
theorem WL.callP {d f : Nat} {args : Array Value} {A B : Ending → World → Prop} (hg : o.guard = none) (hd : o.dst = some d) (hdn : Nat.blt d n = true)
    (he : ∀ a, Fr n l a → (execOp a.eval o).run P w = .ok (.enter f args) w) (hc : Calls P f args w fun e w' => A e w' ∨ B e w') (kp : ∀ e w', B e w' → ∃ c, e = .panicked c ∧ WQ Q (.panic c) n l w')
    (k : ∀ e w', A e w' → ∃ v, e = .returned v ∧ WL P ops Q n ((d, v) :: l) rest w') : WL P ops Q n l (o :: rest) w := fun a ha => wpList_plain hg fun K hK => by
  unfold Oper.wp
  rw [he a ha, Oper.upon_enter]
  refine hc.mono fun e w' hr => ?_
  rcases hr with hr | hr
  · obtain ⟨v, rfl, hv⟩ := k e w' hr
    rw [hd]
    exact hK _ _ (hv _ (ha.put hdn v))
  · obtain ⟨c, rfl, hp⟩ := kp e w' hr
    exact hp a ha
theorem WL.panic {dst : Option Tmp} {ty : TypeId} {pos : String} {af : Array Edge} {x : Operand} {t : TypeId} {u : Value} (hx : opv l x = some (.iface t u))
    (k : WQ Q (.panic [{ v := .iface t u, recovered := false }]) n l w) : WL P ops Q n l (⟨dst, .panic x, ty, pos, af, none⟩ :: rest) w := fun a ha => wpList_plain rfl fun K hK => by
  unfold Oper.wp
  have : (execOp a.eval ⟨dst, .panic x, ty, pos, af, none⟩).run P w = .halt (.panic (.iface t u)) w := by
    simp [execOp, ha.eval hx, Instr.panic]
  rw [this, Oper.upon_panic]
  exact k a ha
end pan
section leave
variable {P : Program} {fn : Func} {R : Ending → World → Prop} {n : Nat} {l : List (Nat × Value)} {w : World}
theorem leavec1 {t : Tmp} {T : TypeId} {b : Addr} {v : Value} {e : Exit} (he : e = .ret ∨ e = .normal) (hr : fn.results = #[.cell t T]) (hv : lk l t = some (.pointer (some b))) (hl : (loadVar T b).run P w = .ok v w) (h : R (.returned v) w) : WQ (bodyPost P fn R) e n l w := fun a ha => by
  have h1 := ha.val t _ hv
  rcases he with rfl | rfl <;>
  · refine ⟨ha.defers, v, ?_, h⟩
    simp [results, hr, Array.getD_eq_getD_getElem?, h1, asAddr, hl]
theorem leavectt {t u k : Tmp} {T : TypeId} {b : Addr} {v x y : Value} {e : Exit} (he : e = .ret ∨ e = .normal) (hr : fn.results = #[.cell t T, .tmp u, .tmp k]) (hv : lk l t = some (.pointer (some b))) (hx : lk l u = some x) (hy : lk l k = some y) (hl : (loadVar T b).run P w = .ok v w) (h : R (.returned (.tuple #[v, x, y])) w) : WQ (bodyPost P fn R) e n l w := fun a ha => by
  have h1 := ha.val t _ hv
  have h2 := ha.val u _ hx
  have h3 := ha.val k _ hy
  rcases he with rfl | rfl <;>
  · refine ⟨ha.defers, _, ?_, h⟩
    simp [results, hr, Array.getD_eq_getD_getElem?, h1, h2, h3, asAddr, hl]
end leave
section cell
variable {P : Program} {w0 w : World} {H : View} {L : Seg}
theorem load_own {t : TypeId} {b : Nat} {T : TypeId} {u : Value} (hag : ∀ w, (isAgg t).run P w = .ok false w) (hS : St w0 H ([(b, Obj.cells #[u] T (0, 0))] ++ L) w) : (loadVar t ⟨b, 0, none⟩).run P w = .ok u w :=
  run_load_cell hag (block_cell hS rfl)
theorem load_own_agg {t : TypeId} {b k : Nat} {T : TypeId} {cs : List Value} (hag : ∀ w, (isAgg t).run P w = .ok true w) (hsz : ∀ w, (sizeOf t).run P w = .ok k w) (hS : St w0 H ([(b, Obj.cells cs.toArray T (0, 0))] ++ L) w) (hk : cs.length = k) : (loadVar t ⟨b, 0, none⟩).run P w = .ok (.agg cs.toArray) w := by
  have hb := hS.own (b, Obj.cells cs.toArray T (0, 0)) (by simp)
  have := run_loadCells_block (P := P) (off := 0) (k := k) (cs := cs) hb (by simp [← hk]) hk
  simp [loadVar, hag, hsz, this]
end cell
namespace Val
def isNil : Val → Bool | nil => true | _ => false
def isTruth : Val → Bool | truth _ => true | _ => false
def truthD : Val → Bool | truth b => b | _ => false
def isNum : Val → Bool | num _ => true | _ => false
def numD : Val → Int | num n => n | _ => 0
def isText : Val → Bool | text _ => true | _ => false
def textD : Val → Str | text s => s | _ => []
def isAtom : Val → Bool | atom _ => true | _ => false
def atomD : Val → Str | atom s => s | _ => []
def isSet : Val → Bool | set _ _ => true | _ => false
def setL : Val → List Val | set l _ => l | _ => []
def setH : Val → Int | set _ h => h | _ => 0
def isFn : Val → Bool | fn _ _ _ => true | _ => false
def fnK : Val → List Val | fn k _ _ => k | _ => []
def fnV : Val → List Val | fn _ v _ => v | _ => []
def fnH : Val → Int | fn _ _ h => h | _ => 0
def rankOf : Val → Int | nil => 0 | truth _ => 1 | num _ => 2 | text _ => 3 | atom _ => 4 | set _ _ => 5 | fn _ _ _ => 6
def weightOf : Val → Int | set _ h => h | fn _ _ h => h | _ => 1
end Val
def IsW (H : View) (u : Value) (x : Val) : Prop := IsV H u x
theorem IsW.mono {H K : View} {u : Value} {x : Val} (h : IsW H u x) (hle : View.le H K) : IsW K u x := VRb.mono hle h
theorem IsW.one {H : View} {u : Value} {x : Val} (h : IsW H u x) : u.oneCell' = true := VRb.one h
theorem IsW.nil {H : View} : IsW H .nilIface .nil := rfl
theorem IsW.truth {H : View} {b : Bool} : IsW H (.iface 86 (.bool b)) (.truth b) := rfl
theorem IsW.num {H : View} {k : Int} (h : I64 k) : IsW H (.iface 87 (.int .i64 k)) (.num k) := ⟨rfl, h⟩
theorem IsW.text {H : View} {s : Str} : IsW H (.iface 89 (sv s)) (.text s) := rfl
theorem IsW.atom {H : View} {s : Str} : IsW H (.iface 91 (sv s)) (.atom s) := rfl
theorem cV_one {H : View} {cs : List Value} {x : Val} (h : cV.rep H cs x) : ∃ u, cs = [u] ∧ IsW H u x := by
  have hl := cV.len h
  match cs, hl with
  | [u], _ => exact ⟨u, rfl, cV_rep.1 h⟩
theorem cV_mk {H : View} {u : Value} {x : Val} (h : IsW H u x) : cV.rep H [u] x := cV_rep.2 h
def IsPS (H : View) (u : Value) (x : Val) : Prop := (x.isSet = true → IsW H (.iface 93 u) x) ∧ u.oneCell' = true
def IsPF (H : View) (u : Value) (x : Val) : Prop := (x.isFn = true → IsW H (.iface 97 u) x) ∧ u.oneCell' = true
theorem IsPS.mono {H K : View} {u : Value} {x : Val} (h : IsPS H u x) (hle : View.le H K) : IsPS K u x := ⟨fun hx => (h.1 hx).mono hle, h.2⟩
theorem IsPF.mono {H K : View} {u : Value} {x : Val} (h : IsPF H u x) (hle : View.le H K) : IsPF K u x := ⟨fun hx => (h.1 hx).mono hle, h.2⟩
theorem IsPS.one {H : View} {u : Value} {x : Val} (h : IsPS H u x) : u.oneCell' = true := h.2
theorem IsPF.one {H : View} {u : Value} {x : Val} (h : IsPF H u x) : u.oneCell' = true := h.2
theorem I64.num {H : View} {u : Value} {x : Val} (h : IsW H u x) : I64 x.numD := by
  cases x with
  | num n => exact h.2
  | _ => exact (show I64 0 from ⟨by decide, by decide⟩)
section ex
variable {P : Program} {n : Nat} {l : List (Nat × Value)} {C : World → Prop} {dst : Option Tmp} {ty : TypeId} {pos : String} {af : Array Edge} {gd : Option (Nat × Bool)} {H : View}
theorem ex_v_eql {t t' : TypeId} {x : Operand} {v : Value} {z : Val} (ht : P.underlying t = some (.interface (P.methodsAt t))) (hx : opv l x = some v) (hz : IsW H v z) :
    Exv P n l C ⟨dst, .binOp .eql t x (.const .nilIface) t', ty, pos, af, gd⟩ (.bool z.isNil) := by
  refine ex_eqv (u := v) (v := .nilIface) hx rfl (fun w => ?_) fun w => ?_
  · cases z with
    | nil => rw [show v = _ from hz]; simp [eqGuard]
    | truth b => rw [show v = _ from hz]; simp [eqGuard]
    | num n => rw [hz.1]; simp [eqGuard]
    | text s => rw [show v = _ from hz]; simp [eqGuard]
    | atom s => rw [show v = _ from hz]; simp [eqGuard]
    | set l h => obtain ⟨b, u, fz, rfl, _⟩ := hz; simp [eqGuard]
    | fn k v' h => obtain ⟨b, u, u', fz, rfl, _⟩ := hz; simp [eqGuard]
  · cases z with
    | nil => rw [show v = _ from hz]; simp [run_eql_nil_nil w t ht, Val.isNil]
    | truth b => rw [show v = _ from hz]; simp [run_eql_held_nil w t _ _ ht, Val.isNil]
    | num n => rw [hz.1]; simp [run_eql_held_nil w t _ _ ht, Val.isNil]
    | text s => rw [show v = _ from hz]; simp [run_eql_held_nil w t _ _ ht, Val.isNil]
    | atom s => rw [show v = _ from hz]; simp [run_eql_held_nil w t _ _ ht, Val.isNil]
    | set l h => obtain ⟨b, u, fz, rfl, _⟩ := hz; simp [run_eql_held_nil w t _ _ ht, Val.isNil]
    | fn k v' h => obtain ⟨b, u, u', fz, rfl, _⟩ := hz; simp [run_eql_held_nil w t _ _ ht, Val.isNil]
theorem run_assert_ok {w : World} {xt at_ T : TypeId} {u z : Value} (hc : P.concrete at_ = true) (hz : ∀ w, (zeroValue at_).run P w = .ok z w) :
    (Instr.typeAssert (.iface T u) xt at_ true).run P w = .ok (.tuple #[if T = at_ then u else z, .bool (decide (T = at_))]) w := by
  unfold Program.concrete at hc
  cases hu : P.underlying at_ with
  | none => rw [hu] at hc; simp at hc
  | some d =>
    by_cases hT : T = at_
    · subst hT
      cases d <;> simp_all [Instr.typeAssert, run_underlying hu]
    · cases d <;> simp_all [Instr.typeAssert, run_underlying hu]
theorem run_assert_nil {w : World} {xt at_ : TypeId} {z : Value} (hc : P.concrete at_ = true) (hz : ∀ w, (zeroValue at_).run P w = .ok z w) :
    (Instr.typeAssert .nilIface xt at_ true).run P w = .ok (.tuple #[z, .bool false]) w := by
  unfold Program.concrete at hc
  cases hu : P.underlying at_ with
  | none => rw [hu] at hc; simp at hc
  | some d => cases d <;> simp_all [Instr.typeAssert, run_underlying hu]
theorem run_assert {w : World} {xt at_ : TypeId} {u : Value} (hc : P.concrete at_ = true) :
    (Instr.typeAssert (.iface at_ u) xt at_ false).run P w = .ok u w := by
  unfold Program.concrete at hc
  cases hu : P.underlying at_ with
  | none => rw [hu] at hc; simp at hc
  | some d => cases d <;> simp_all [Instr.typeAssert, run_underlying hu]
theorem ex_as_truth {x : Operand} {xt : TypeId} {v : Value} {z : Val} (hc : P.concrete 86 = true) (hz : ∀ w, (zeroValue 86).run P w = .ok (.bool false) w) (hx : opv l x = some v) (hv : IsW H v z) :
    Exv P n l C ⟨dst, .typeAssert x xt 86 true, ty, pos, af, gd⟩ (.tuple #[.bool z.truthD, .bool z.isTruth]) := fun w _ a ha => by
  cases z with
  | nil => rw [show v = _ from hv] at hx; simp [execOp, ha.eval hx, run_assert_nil hc hz, Val.truthD, Val.isTruth]
  | truth b => rw [show v = _ from hv] at hx; simp [execOp, ha.eval hx, run_assert_ok hc hz, Val.truthD, Val.isTruth]
  | num k => rw [hv.1] at hx; simp [execOp, ha.eval hx, run_assert_ok hc hz, Val.truthD, Val.isTruth]
  | text s => rw [show v = _ from hv] at hx; simp [execOp, ha.eval hx, run_assert_ok hc hz, Val.truthD, Val.isTruth]
  | atom s => rw [show v = _ from hv] at hx; simp [execOp, ha.eval hx, run_assert_ok hc hz, Val.truthD, Val.isTruth]
  | set k h => obtain ⟨b, u, fz, e, _⟩ := hv; rw [e] at hx; simp [execOp, ha.eval hx, run_assert_ok hc hz, Val.truthD, Val.isTruth]
  | fn k v' h => obtain ⟨b, u, u', fz, e, _⟩ := hv; rw [e] at hx; simp [execOp, ha.eval hx, run_assert_ok hc hz, Val.truthD, Val.isTruth]
theorem ex_as_num {x : Operand} {xt : TypeId} {v : Value} {z : Val} (hc : P.concrete 87 = true) (hz : ∀ w, (zeroValue 87).run P w = .ok (.int .i64 0) w) (hx : opv l x = some v) (hv : IsW H v z) :
    Exv P n l C ⟨dst, .typeAssert x xt 87 true, ty, pos, af, gd⟩ (.tuple #[.int .i64 z.numD, .bool z.isNum]) := fun w _ a ha => by
  cases z with
  | nil => rw [show v = _ from hv] at hx; simp [execOp, ha.eval hx, run_assert_nil hc hz, Val.numD, Val.isNum]
  | truth b => rw [show v = _ from hv] at hx; simp [execOp, ha.eval hx, run_assert_ok hc hz, Val.numD, Val.isNum]
  | num k => rw [hv.1] at hx; simp [execOp, ha.eval hx, run_assert_ok hc hz, Val.numD, Val.isNum]
  | text s => rw [show v = _ from hv] at hx; simp [execOp, ha.eval hx, run_assert_ok hc hz, Val.numD, Val.isNum]
  | atom s => rw [show v = _ from hv] at hx; simp [execOp, ha.eval hx, run_assert_ok hc hz, Val.numD, Val.isNum]
  | set k h => obtain ⟨b, u, fz, e, _⟩ := hv; rw [e] at hx; simp [execOp, ha.eval hx, run_assert_ok hc hz, Val.numD, Val.isNum]
  | fn k v' h => obtain ⟨b, u, u', fz, e, _⟩ := hv; rw [e] at hx; simp [execOp, ha.eval hx, run_assert_ok hc hz, Val.numD, Val.isNum]
theorem ex_as_text {x : Operand} {xt : TypeId} {v : Value} {z : Val} (hc : P.concrete 89 = true) (hz : ∀ w, (zeroValue 89).run P w = .ok (sv []) w) (hx : opv l x = some v) (hv : IsW H v z) :
    Exv P n l C ⟨dst, .typeAssert x xt 89 true, ty, pos, af, gd⟩ (.tuple #[sv z.textD, .bool z.isText]) := fun w _ a ha => by
  cases z with
  | nil => rw [show v = _ from hv] at hx; simp [execOp, ha.eval hx, run_assert_nil hc hz, Val.textD, Val.isText]
  | truth b => rw [show v = _ from hv] at hx; simp [execOp, ha.eval hx, run_assert_ok hc hz, Val.textD, Val.isText]
  | num k => rw [hv.1] at hx; simp [execOp, ha.eval hx, run_assert_ok hc hz, Val.textD, Val.isText]
  | text s => rw [show v = _ from hv] at hx; simp [execOp, ha.eval hx, run_assert_ok hc hz, Val.textD, Val.isText]
  | atom s => rw [show v = _ from hv] at hx; simp [execOp, ha.eval hx, run_assert_ok hc hz, Val.textD, Val.isText]
  | set k h => obtain ⟨b, u, fz, e, _⟩ := hv; rw [e] at hx; simp [execOp, ha.eval hx, run_assert_ok hc hz, Val.textD, Val.isText]
  | fn k v' h => obtain ⟨b, u, u', fz, e, _⟩ := hv; rw [e] at hx; simp [execOp, ha.eval hx, run_assert_ok hc hz, Val.textD, Val.isText]
theorem ex_as_atom {x : Operand} {xt : TypeId} {v : Value} {z : Val} (hc : P.concrete 91 = true) (hz : ∀ w, (zeroValue 91).run P w = .ok (sv []) w) (hx : opv l x = some v) (hv : IsW H v z) :
    Exv P n l C ⟨dst, .typeAssert x xt 91 true, ty, pos, af, gd⟩ (.tuple #[sv z.atomD, .bool z.isAtom]) := fun w _ a ha => by
  cases z with
  | nil => rw [show v = _ from hv] at hx; simp [execOp, ha.eval hx, run_assert_nil hc hz, Val.atomD, Val.isAtom]
  | truth b => rw [show v = _ from hv] at hx; simp [execOp, ha.eval hx, run_assert_ok hc hz, Val.atomD, Val.isAtom]
  | num k => rw [hv.1] at hx; simp [execOp, ha.eval hx, run_assert_ok hc hz, Val.atomD, Val.isAtom]
  | text s => rw [show v = _ from hv] at hx; simp [execOp, ha.eval hx, run_assert_ok hc hz, Val.atomD, Val.isAtom]
  | atom s => rw [show v = _ from hv] at hx; simp [execOp, ha.eval hx, run_assert_ok hc hz, Val.atomD, Val.isAtom]
  | set k h => obtain ⟨b, u, fz, e, _⟩ := hv; rw [e] at hx; simp [execOp, ha.eval hx, run_assert_ok hc hz, Val.atomD, Val.isAtom]
  | fn k v' h => obtain ⟨b, u, u', fz, e, _⟩ := hv; rw [e] at hx; simp [execOp, ha.eval hx, run_assert_ok hc hz, Val.atomD, Val.isAtom]
theorem ex_as_set {x : Operand} {xt : TypeId} {v : Value} {z : Val} (hc : P.concrete 93 = true) (hz : ∀ w, (zeroValue 93).run P w = .ok (.pointer none) w) (hx : opv l x = some v) (hv : IsW H v z) :
    ∃ t, (∃ u, t = .tuple #[u, .bool z.isSet] ∧ IsPS H u z) ∧ Exv P n l C ⟨dst, .typeAssert x xt 93 true, ty, pos, af, gd⟩ t := by
  cases z with
  | set k h =>
    have hv' := hv
    obtain ⟨b, u, fz, e, h2⟩ := hv; rw [e] at hx
    exact ⟨_, ⟨.pointer (some ⟨b, 0, none⟩), rfl, fun _ => ⟨b, u, fz, rfl, h2⟩, rfl⟩, fun w _ a ha => by simp [execOp, ha.eval hx, run_assert_ok hc hz, Val.isSet]⟩
  | nil => exact ⟨_, ⟨.pointer none, rfl, nofun, rfl⟩, fun w _ a ha => by rw [show v = _ from hv] at hx; simp [execOp, ha.eval hx, run_assert_nil hc hz, Val.isSet]⟩
  | truth b => exact ⟨_, ⟨.pointer none, rfl, nofun, rfl⟩, fun w _ a ha => by rw [show v = _ from hv] at hx; simp [execOp, ha.eval hx, run_assert_ok hc hz, Val.isSet]⟩
  | num k => exact ⟨_, ⟨.pointer none, rfl, nofun, rfl⟩, fun w _ a ha => by rw [hv.1] at hx; simp [execOp, ha.eval hx, run_assert_ok hc hz, Val.isSet]⟩
  | text s => exact ⟨_, ⟨.pointer none, rfl, nofun, rfl⟩, fun w _ a ha => by rw [show v = _ from hv] at hx; simp [execOp, ha.eval hx, run_assert_ok hc hz, Val.isSet]⟩
  | atom s => exact ⟨_, ⟨.pointer none, rfl, nofun, rfl⟩, fun w _ a ha => by rw [show v = _ from hv] at hx; simp [execOp, ha.eval hx, run_assert_ok hc hz, Val.isSet]⟩
  | fn k v' h => exact ⟨_, ⟨.pointer none, rfl, nofun, rfl⟩, fun w _ a ha => by obtain ⟨b, u, u', fz, e, _⟩ := hv; rw [e] at hx; simp [execOp, ha.eval hx, run_assert_ok hc hz, Val.isSet]⟩
theorem ex_as_fn {x : Operand} {xt : TypeId} {v : Value} {z : Val} (hc : P.concrete 97 = true) (hz : ∀ w, (zeroValue 97).run P w = .ok (.pointer none) w) (hx : opv l x = some v) (hv : IsW H v z) :
    ∃ t, (∃ u, t = .tuple #[u, .bool z.isFn] ∧ IsPF H u z) ∧ Exv P n l C ⟨dst, .typeAssert x xt 97 true, ty, pos, af, gd⟩ t := by
  cases z with
  | fn k v' h =>
    obtain ⟨b, u, u', fz, e, h2⟩ := hv; rw [e] at hx
    exact ⟨_, ⟨.pointer (some ⟨b, 0, none⟩), rfl, fun _ => ⟨b, u, u', fz, rfl, h2⟩, rfl⟩, fun w _ a ha => by simp [execOp, ha.eval hx, run_assert_ok hc hz, Val.isFn]⟩
  | nil => exact ⟨_, ⟨.pointer none, rfl, nofun, rfl⟩, fun w _ a ha => by rw [show v = _ from hv] at hx; simp [execOp, ha.eval hx, run_assert_nil hc hz, Val.isFn]⟩
  | truth b => exact ⟨_, ⟨.pointer none, rfl, nofun, rfl⟩, fun w _ a ha => by rw [show v = _ from hv] at hx; simp [execOp, ha.eval hx, run_assert_ok hc hz, Val.isFn]⟩
  | num k => exact ⟨_, ⟨.pointer none, rfl, nofun, rfl⟩, fun w _ a ha => by rw [hv.1] at hx; simp [execOp, ha.eval hx, run_assert_ok hc hz, Val.isFn]⟩
  | text s => exact ⟨_, ⟨.pointer none, rfl, nofun, rfl⟩, fun w _ a ha => by rw [show v = _ from hv] at hx; simp [execOp, ha.eval hx, run_assert_ok hc hz, Val.isFn]⟩
  | atom s => exact ⟨_, ⟨.pointer none, rfl, nofun, rfl⟩, fun w _ a ha => by rw [show v = _ from hv] at hx; simp [execOp, ha.eval hx, run_assert_ok hc hz, Val.isFn]⟩
  | set k h => exact ⟨_, ⟨.pointer none, rfl, nofun, rfl⟩, fun w _ a ha => by obtain ⟨b, u, fz, e, _⟩ := hv; rw [e] at hx; simp [execOp, ha.eval hx, run_assert_ok hc hz, Val.isFn]⟩
theorem ex_at_truth {x : Operand} {xt : TypeId} {v : Value} {z : Val} (hc : P.concrete 86 = true) (hx : opv l x = some v) (hv : IsW H v z) (hk : z.isTruth = true) : Exv P n l C ⟨dst, .typeAssert x xt 86 false, ty, pos, af, gd⟩ (.bool z.truthD) := fun w _ a ha => by
  cases z <;> first | exact Bool.noConfusion (show false = true from hk) | (rw [show v = _ from hv] at hx; simp [execOp, ha.eval hx, run_assert hc, Val.truthD])
theorem ex_at_num {x : Operand} {xt : TypeId} {v : Value} {z : Val} (hc : P.concrete 87 = true) (hx : opv l x = some v) (hv : IsW H v z) (hk : z.isNum = true) : Exv P n l C ⟨dst, .typeAssert x xt 87 false, ty, pos, af, gd⟩ (.int .i64 z.numD) := fun w _ a ha => by
  cases z <;> first | exact Bool.noConfusion (show false = true from hk) | (rw [hv.1] at hx; simp [execOp, ha.eval hx, run_assert hc, Val.numD])
theorem ex_at_text {x : Operand} {xt : TypeId} {v : Value} {z : Val} (hc : P.concrete 89 = true) (hx : opv l x = some v) (hv : IsW H v z) (hk : z.isText = true) : Exv P n l C ⟨dst, .typeAssert x xt 89 false, ty, pos, af, gd⟩ (sv z.textD) := fun w _ a ha => by
  cases z <;> first | exact Bool.noConfusion (show false = true from hk) | (rw [show v = _ from hv] at hx; simp [execOp, ha.eval hx, run_assert hc, Val.textD])
theorem ex_at_atom {x : Operand} {xt : TypeId} {v : Value} {z : Val} (hc : P.concrete 91 = true) (hx : opv l x = some v) (hv : IsW H v z) (hk : z.isAtom = true) : Exv P n l C ⟨dst, .typeAssert x xt 91 false, ty, pos, af, gd⟩ (sv z.atomD) := fun w _ a ha => by
  cases z <;> first | exact Bool.noConfusion (show false = true from hk) | (rw [show v = _ from hv] at hx; simp [execOp, ha.eval hx, run_assert hc, Val.atomD])
theorem ex_at_set {x : Operand} {xt : TypeId} {v : Value} {z : Val} (hc : P.concrete 93 = true) (hx : opv l x = some v) (hv : IsW H v z) (hk : z.isSet = true) : ∃ u, IsPS H u z ∧ Exv P n l C ⟨dst, .typeAssert x xt 93 false, ty, pos, af, gd⟩ u := by
  cases z <;> first | exact Bool.noConfusion (show false = true from hk) | skip
  obtain ⟨b, u, fz, e, h2⟩ := hv; rw [e] at hx
  exact ⟨.pointer (some ⟨b, 0, none⟩), ⟨fun _ => ⟨b, u, fz, rfl, h2⟩, rfl⟩, fun w _ a ha => by simp [execOp, ha.eval hx, run_assert hc]⟩
theorem ex_at_fn {x : Operand} {xt : TypeId} {v : Value} {z : Val} (hc : P.concrete 97 = true) (hx : opv l x = some v) (hv : IsW H v z) (hk : z.isFn = true) : ∃ u, IsPF H u z ∧ Exv P n l C ⟨dst, .typeAssert x xt 97 false, ty, pos, af, gd⟩ u := by
  cases z <;> first | exact Bool.noConfusion (show false = true from hk) | skip
  obtain ⟨b, u, u', fz, e, h2⟩ := hv; rw [e] at hx
  exact ⟨.pointer (some ⟨b, 0, none⟩), ⟨fun _ => ⟨b, u, u', fz, rfl, h2⟩, rfl⟩, fun w _ a ha => by simp [execOp, ha.eval hx, run_assert hc]⟩
theorem ex_nc_set {x : Operand} {u : Value} {z : Val} (hx : opv l x = some u) (hu : IsPS H u z) (hk : z.isSet = true) : Exv P n l C ⟨dst, .nilCheck x, ty, pos, af, gd⟩ u := by
  have h := hu.1 hk
  cases z <;> first | exact Bool.noConfusion (show false = true from hk) | skip
  obtain ⟨b, v, fz, e, _⟩ := h; cases e
  exact ex_nilCheck hx
theorem ex_nc_fn {x : Operand} {u : Value} {z : Val} (hx : opv l x = some u) (hu : IsPF H u z) (hk : z.isFn = true) : Exv P n l C ⟨dst, .nilCheck x, ty, pos, af, gd⟩ u := by
  have h := hu.1 hk
  cases z <;> first | exact Bool.noConfusion (show false = true from hk) | skip
  obtain ⟨b, v, v', fz, e, _⟩ := h; cases e
  exact ex_nilCheck hx
section fields
variable {s : TypeId} {x : Operand} {f k : Nat} {fields : Array Field} {fd : Field} {u : Value} {z : Val}
theorem ex_set_l (hs : P.underlying s = some (.struct fields)) (hf : fields[0]? = some fd) (hsz : ∀ w, (sizeOf fd.type).run P w = .ok (k + 1) w) (ho : 0 + fd.offset = 0) (hx : opv l x = some u) (hu : IsPS H u z) (hk : z.isSet = true) :
    ∃ p, IsPt H (cSl cV) p z.setL ∧ Exv P n l C ⟨dst, .fieldAddr s x 0, ty, pos, af, gd⟩ p := by
  have h := hu.1 hk
  cases z <;> first | exact Bool.noConfusion (show false = true from hk) | skip
  obtain ⟨b, v, fz, e, h2, h3, h4⟩ := h; cases e
  exact ⟨.pointer (some ⟨b, 0, none⟩), ⟨b, 0, _, _, fz, [], [v], [_], rfl, h2, rfl, rfl, v, rfl, h3⟩, ex_fieldAddr hs hf hsz hx ho⟩
theorem ex_set_h (hs : P.underlying s = some (.struct fields)) (hf : fields[1]? = some fd) (hsz : ∀ w, (sizeOf fd.type).run P w = .ok (k + 1) w) (ho : 0 + fd.offset = 1) (hx : opv l x = some u) (hu : IsPS H u z) (hk : z.isSet = true) :
    ∃ p, IsPt H (cInt .i64) p z.setH ∧ Exv P n l C ⟨dst, .fieldAddr s x 1, ty, pos, af, gd⟩ p := by
  have h := hu.1 hk
  cases z <;> first | exact Bool.noConfusion (show false = true from hk) | skip
  obtain ⟨b, v, fz, e, h2, h3, h4⟩ := h; cases e
  exact ⟨.pointer (some ⟨b, 1, none⟩), ⟨b, 1, _, _, fz, [v], [_], [], rfl, h2, rfl, rfl, rfl, h4.has⟩, ex_fieldAddr hs hf hsz hx ho⟩
theorem ex_fn_k (hs : P.underlying s = some (.struct fields)) (hf : fields[0]? = some fd) (hsz : ∀ w, (sizeOf fd.type).run P w = .ok (k + 1) w) (ho : 0 + fd.offset = 0) (hx : opv l x = some u) (hu : IsPF H u z) (hk : z.isFn = true) :
    ∃ p, IsPt H (cSl cV) p z.fnK ∧ Exv P n l C ⟨dst, .fieldAddr s x 0, ty, pos, af, gd⟩ p := by
  have h := hu.1 hk
  cases z <;> first | exact Bool.noConfusion (show false = true from hk) | skip
  obtain ⟨b, v, v', fz, e, h2, h3, h4, h5⟩ := h; cases e
  exact ⟨.pointer (some ⟨b, 0, none⟩), ⟨b, 0, _, _, fz, [], [v], [_, _], rfl, h2, rfl, rfl, v, rfl, h3⟩, ex_fieldAddr hs hf hsz hx ho⟩
theorem ex_fn_v (hs : P.underlying s = some (.struct fields)) (hf : fields[1]? = some fd) (hsz : ∀ w, (sizeOf fd.type).run P w = .ok (k + 1) w) (ho : 0 + fd.offset = 1) (hx : opv l x = some u) (hu : IsPF H u z) (hk : z.isFn = true) :
    ∃ p, IsPt H (cSl cV) p z.fnV ∧ Exv P n l C ⟨dst, .fieldAddr s x 1, ty, pos, af, gd⟩ p := by
  have h := hu.1 hk
  cases z <;> first | exact Bool.noConfusion (show false = true from hk) | skip
  obtain ⟨b, v, v', fz, e, h2, h3, h4, h5⟩ := h; cases e
  exact ⟨.pointer (some ⟨b, 1, none⟩), ⟨b, 1, _, _, fz, [_], [v'], [_], rfl, h2, rfl, rfl, v', rfl, h4⟩, ex_fieldAddr hs hf hsz hx ho⟩
theorem ex_fn_h (hs : P.underlying s = some (.struct fields)) (hf : fields[2]? = some fd) (hsz : ∀ w, (sizeOf fd.type).run P w = .ok (k + 1) w) (ho : 0 + fd.offset = 2) (hx : opv l x = some u) (hu : IsPF H u z) (hk : z.isFn = true) :
    ∃ p, IsPt H (cInt .i64) p z.fnH ∧ Exv P n l C ⟨dst, .fieldAddr s x 2, ty, pos, af, gd⟩ p := by
  have h := hu.1 hk
  cases z <;> first | exact Bool.noConfusion (show false = true from hk) | skip
  obtain ⟨b, v, v', fz, e, h2, h3, h4, h5⟩ := h; cases e
  exact ⟨.pointer (some ⟨b, 2, none⟩), ⟨b, 2, _, _, fz, [_, _], [_], [], rfl, h2, rfl, rfl, rfl, h5.has⟩, ex_fieldAddr hs hf hsz hx ho⟩
end fields
end ex
theorem IsW.mkset {w0 w : World} {H : View} {L : Seg} {b : Nat} {v : Value} {k : List Val} {h : Int} (hS : St w0 H ([(b, Obj.cells #[v, .int .i64 h] 96 (0, 0))] ++ L) w) (hl : IsSl H cV v k) (hh : I64 h) :
    IsW (H.put [(b, Obj.cells #[v, .int .i64 h] 96 (0, 0))]) (.iface 93 (.pointer (some ⟨b, 0, none⟩))) (.set k h) :=
  ⟨b, v, (0, 0), rfl, View.put_mem (by simp) (p := (b, _)) (by simp), hl.mono hS.put_le, hh⟩
theorem IsW.mkfn {w0 w : World} {H : View} {L : Seg} {b : Nat} {v v' : Value} {k k' : List Val} {h : Int} (hS : St w0 H ([(b, Obj.cells #[v, v', .int .i64 h] 100 (0, 0))] ++ L) w) (hl : IsSl H cV v k) (hl' : IsSl H cV v' k') (hh : I64 h) :
    IsW (H.put [(b, Obj.cells #[v, v', .int .i64 h] 100 (0, 0))]) (.iface 97 (.pointer (some ⟨b, 0, none⟩))) (.fn k k' h) :=
  ⟨b, v, v', (0, 0), rfl, View.put_mem (by simp) (p := (b, _)) (by simp), hl.mono hS.put_le, hl'.mono hS.put_le, hh⟩
end Go.Vc
