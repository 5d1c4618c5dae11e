/- Short words for long texts; what is to be shown where slices.Sort at []bdd.Node is called. -/
import Derived.Test.YtmdoicffgeihcaaGreatDoorMore
set_option linter.unusedVariables false
namespace Go.Vc
open Go
def V_SortN (xs : List Int) (Q : List Int → Prop) : Prop := xs.length < 4611686018427387904 ∧ Q (xs.mergeSort fun x y => decide (x ≤ y))
abbrev pq (b : Nat) : Value := .pointer (some ⟨b, 0, none⟩)
abbrev oc (a : Array Value) (t : TypeId) : Obj := .cells a t (0, 0)
abbrev i6 (x : Int) : Value := .int .i64 x
abbrev LI := List Int
abbrev N3 := List (Int × Int × Int)
abbrev M3 := List ((Int × Int × Int) × Int)
abbrev M1 := List (Int × Int)
abbrev B2 := List (List Bool)
theorem il {α : Sort _} {a : α} {p : Prop} : a = a ∨ p := .inl rfl
section
variable {P : Program} {ops : Array Oper} {Q : Exit → Act → World → Prop} {n : Nat} {l : List (Nat × Value)} {rest : List Oper} {w : World} {d : Nat} {v : Value} {ty : TypeId} {pos : String} {af : Array Edge} {x : Operand}
theorem WL.mv (hn : Nat.blt d n = true) (hx : opv l x = some v) (k : WL P ops Q n ((d, v) :: l) rest w) : WL P ops Q n l (⟨some d, .move x, ty, pos, af, none⟩ :: rest) w :=
  WL.run (C := fun _ => True) trivial rfl rfl hn (ex_move hx) k
theorem WL.ma (hn : Nat.blt d n = true) (hx : opv l x = some v) (k : WL P ops Q n ((d, v) :: l) rest w) : WL P ops Q n l (⟨some d, .assign x, ty, pos, af, none⟩ :: rest) w :=
  WL.run (C := fun _ => True) trivial rfl rfl hn (ex_assign hx) k
theorem WL.nx {ops : Array Oper} {y : Code} (h : WC P Q n l y w) : WL P ops (Exit.then (y.wp P Q) Q) n l [] w := WL.nil (WQ.next h)
theorem WL.up {ops : Array Oper} {s : Nat} {b c : Bool} (hx : lk l s = some (.bool b)) (e : b = c) (h : WL P ops Q n ((s, .bool c) :: l) rest w) : WL P ops Q n l rest w := fun a ha => h a (by
  subst e
  refine ⟨ha.defers, ha.size, fun k v hv => ?_⟩
  rw [lk_cons] at hv
  split at hv
  · rename_i h; subst h; cases hv; exact ha.val _ _ hx
  · exact ha.val _ _ hv)
theorem WC.sr {k : Nat} {ops : List Oper} {y : Code} (h : WL P ops.toArray (Exit.then (y.wp P Q) Q) n l ops w) : WC P Q n l (.seq (.region k ops.toArray false) y) w := WC.seq (WC.region h)
end
end Go.Vc
