/- Steps that need no words of ours: an operation done in a frame. Short words for rules whose equations are closed. -/
import Derived.Test.YtmdoicffgeihcaaGreatDoorSrt
set_option linter.unusedVariables false
namespace Go.Vc
open Go
abbrev od {p : Prop} [Decidable p] (h : decide p = true) : p := of_decide_eq_true h
abbrev ov {p : Prop} [Decidable p] (h : decide p = false) : ¬ p := of_decide_eq_false h
abbrev bft := Bool.eq_false_or_eq_true
abbrev ns : Value := .slice none 0 0
theorem i0 : I64 0 := by unfold I64; omega
section
variable {P : Program} {ops : Array Oper} {Q : Exit → Act → World → Prop} {n : Nat} {l : List (Nat × Value)} {rest : List Oper} {o : Oper} {w : World} {C : World → Prop} {d : Nat} {v : Value}
/-- One operation done in a frame: its place gets a value. -/
inductive Stp (P : Program) (ops : Array Oper) (n : Nat) (l : List (Nat × Value)) (C : World → Prop) : Oper → Nat → Value → Prop
  | run {o : Oper} {d : Nat} {v : Value} (hg : o.guard = none) (hd : o.dst = some d) (hdn : Nat.blt d n = true) (he : Exv P n l C o v) : Stp P ops n l C o d v
  | skip {o : Oper} {d j dj : Nat} {b want : Bool} (hg : o.guard = some (j, want)) (hj : (ops[j]?).bind (·.dst) = some dj) (hv : lk l dj = some (.bool b)) (hb : b = !want) (hd : o.dst = some d) (hdn : Nat.blt d n = true) : Stp P ops n l C o d undef
  | skipu {o : Oper} {d j dj : Nat} {want : Bool} (hg : o.guard = some (j, want)) (hj : (ops[j]?).bind (·.dst) = some dj) (hv : lk l dj = some undef) (hd : o.dst = some d) (hdn : Nat.blt d n = true) : Stp P ops n l C o d undef
  | ug {dst : Option Tmp} {op : Op} {ty : TypeId} {pos : String} {af : Array Edge} {d j dj : Nat} {v : Value} {b want : Bool} (hj : (ops[j]?).bind (·.dst) = some dj) (hv : lk l dj = some (.bool b)) (hb : b = want)
    (h : Stp P ops n l C ⟨dst, op, ty, pos, af, none⟩ d v) : Stp P ops n l C ⟨dst, op, ty, pos, af, some (j, want)⟩ d v
theorem Stp.wl (h : Stp P ops n l C o d v) : ∀ {rest : List Oper}, C w → WL P ops Q n ((d, v) :: l) rest w → WL P ops Q n l (o :: rest) w := by
  induction h with
  | run hg hd hdn he => exact fun hw k => WL.run hw hg hd hdn he k
  | skip hg hj hv hb hd hdn => exact fun _ k => WL.skip_g hg hj hv hb hd hdn k
  | skipu hg hj hv hd hdn => exact fun _ k => WL.skip_u hg hj hv hd hdn k
  | ug hj hv hb _ ih => exact fun hw k => WL.unguard hj hv hb (ih hw k)
theorem Stp.wq {K : Act → Prop} (h : Stp P ops n l C o d v) : ∀ {rest : List Oper}, Wq P ops C K n ((d, v) :: l) rest → Wq P ops C K n l (o :: rest) := by
  induction h with
  | run hg hd hdn he => exact fun k => Wq.run hg hd hdn he k
  | skip hg hj hv hb hd hdn => exact fun k => Wq.skip_g hg hj hv hb hd hdn k
  | skipu hg hj hv hd hdn => exact fun k => Wq.skip_u hg hj hv hd hdn k
  | ug hj hv hb _ ih => exact fun k => Wq.unguard hj hv hb (ih k)
theorem Uq {K : Act → Prop} {dst : Option Tmp} {op : Op} {ty : TypeId} {pos : String} {af : Array Edge} {j dj : Nat} {b want : Bool} (hb : b = want)
    (k : Wq P ops C K n l (⟨dst, op, ty, pos, af, none⟩ :: rest)) (hj : (ops[j]?).bind (·.dst) = some dj := by exact rfl) (hv : lk l dj = some (.bool b) := by exact rfl) :
    Wq P ops C K n l (⟨dst, op, ty, pos, af, some (j, want)⟩ :: rest) := Wq.unguard hj hv hb k
theorem Rm {K : Act → Prop} (he : Exv P n l C o v) (k : Wq P ops C K n ((d, v) :: l) rest) (hg : o.guard = none := by exact rfl) (hd : o.dst = some d := by exact rfl) (hdn : Nat.blt d n = true := by exact rfl) :
    Wq P ops C K n l (o :: rest) := Wq.run hg hd hdn he k
theorem Ug {dst : Option Tmp} {op : Op} {ty : TypeId} {pos : String} {af : Array Edge} {j dj : Nat} {b want : Bool} (hb : b = want)
    (k : WL P ops Q n l (⟨dst, op, ty, pos, af, none⟩ :: rest) w) (hj : (ops[j]?).bind (·.dst) = some dj := by exact rfl) (hv : lk l dj = some (.bool b) := by exact rfl) :
    WL P ops Q n l (⟨dst, op, ty, pos, af, some (j, want)⟩ :: rest) w := WL.unguard hj hv hb k
theorem Rn (hw : C w) (he : Exv P n l C o v) (k : WL P ops Q n ((d, v) :: l) rest w) (hg : o.guard = none := by exact rfl) (hd : o.dst = some d := by exact rfl) (hdn : Nat.blt d n = true := by exact rfl) :
    WL P ops Q n l (o :: rest) w := WL.run hw hg hd hdn he k
theorem Rx {D : Value → Prop} (hw : C w) (he : ∃ v, D v ∧ Exv P n l C o v) (k : ∀ v, D v → WL P ops Q n ((d, v) :: l) rest w) (hg : o.guard = none := by exact rfl) (hd : o.dst = some d := by exact rfl) (hdn : Nat.blt d n = true := by exact rfl) :
    WL P ops Q n l (o :: rest) w := WL.runx hw hg hd hdn he k
theorem Rc {f : Nat} {args : Array Value} {R : Ending → World → Prop} (he : ∀ a, Fr n l a → (execOp a.eval o).run P w = .ok (.enter f args) w) (hc : Calls P f args w R)
    (k : ∀ e w', R e w' → ∃ v, e = .returned v ∧ WL P ops Q n ((d, v) :: l) rest w') (hg : o.guard = none := by exact rfl) (hd : o.dst = some d := by exact rfl) (hdn : Nat.blt d n = true := by exact rfl) : WL P ops Q n l (o :: rest) w :=
  WL.call hg hd hdn he hc k
theorem Dm {eff : Nat → Bool} {anc : Nat → Nat → Bool} {i : Nat} {I : List Nat} {pend : Pend} {x : Operand} {ty : TypeId} {pos : String} {af : Array Edge} {gd : Option (Nat × Bool)}
    (k : ∀ p : (World → Prop) → Prop, (∀ C', p C') → Wd P ops eff anc Q n ((d, v) :: l) I ((i, p) :: pend) C) (ho : ops[i]? = some ⟨some d, .move x, ty, pos, af, gd⟩ := by exact rfl) (he : eff i = false := by exact rfl) (hdn : Nat.blt d n = true := by exact rfl) (hx : opv l x = some v := by exact rfl) :
    Wd P ops eff anc Q n l (i :: I) pend C := Wd.run ho he rfl hdn (fun _ => ex_move hx) k
theorem Cd {c : Operand} {x y : Code} {t : Bool} (h1 : t = true → WC P Q n l x w) (h2 : t = false → WC P Q n l y w) (hc : opv l c = some (.bool t) := by exact rfl) : WC P Q n l (.cond c x y) w := WC.cond hc h1 h2
theorem Wt {J : Act → World → Prop} (h : ∀ a, Fr n l a → J a w) : WQ (Exit.then J Q) .normal n l w := WQ.there h
theorem Wp {K : Act → World → Prop} {e : Exit} (h : WQ Q e n l w) (he : e ≠ .normal := by exact nofun) : WQ (Exit.then K Q) e n l w := WQ.pass he h
theorem Sb (m : List (Nat × Value)) {c : Code} (h : WC P Q n m c w) (hs : sub l m := by repeat (first | exact trivial | refine ⟨rfl, ?_⟩)) : WC P Q n l c w := WC.sub hs h
theorem Fr.os {m : List (Nat × Value)} {a : Act} (h : Fr n l a) (hs : sub l m := by repeat (first | exact trivial | refine ⟨rfl, ?_⟩)) : Fr n m a := h.of_sub hs
theorem At.os {m : List (Nat × Value)} (hs : sub l m := by repeat (first | exact trivial | refine ⟨rfl, ?_⟩)) : WQ (At n m w) .normal n l w := At.of hs
theorem St1 {w0 : World} {H : View} {L : Seg} {ty : TypeId} {pos : String} {af : Array Edge} {b off : Nat} {t T : TypeId} {x y : Operand} {arr : Array Value} (arr' : Array Value) {cs : List Value} {v : Value} {m : Nat}
    (hsz : ∀ w, (sizeOf t).run P w = .ok m w) (hw : St w0 H ([(b, .cells arr T (0, 0))] ++ L) w) (k : ∀ w', St w0 H ([(b, .cells arr' T (0, 0))] ++ L) w' → WL P ops Q n l rest w')
    (hx : opv l x = some (.pointer (some ⟨b, off, none⟩)) := by exact rfl) (hy : opv l y = some v := by exact rfl) (hc : v.cells.toList = cs := by exact rfl) (hm : cs.length = m := by exact rfl) (hone : ones cs := by repeat (first | exact trivial | refine ⟨rfl, ?_⟩))
    (hsp : arr.toList = arr.toList.take off ++ ((arr.toList.drop off).take cs.length ++ arr.toList.drop (off + cs.length)) := by exact rfl) (hpre : (arr.toList.take off).length = off := by exact rfl) (hold : ((arr.toList.drop off).take cs.length).length = cs.length := by exact rfl)
    (harr : (arr.toList.take off ++ (cs ++ arr.toList.drop (off + cs.length))).toArray = arr' := by exact rfl) : WL P ops Q n l (⟨none, .store t x y, ty, pos, af, none⟩ :: rest) w :=
  WL.store_box (by subst hm; exact hsz) hx hy hc hone hsp hpre hold harr hw k
end
end Go.Vc
