/- How arguments that read as data lie in the view of the whole heap. -/
import Derived.Test.YtlhkfkecoekoeaaGreatDoorBox
import Derived.ProofKit
import Derived.SizedLaws
set_option linter.unusedVariables false
namespace Go.Vc
open Go Go.ChangeShapes
abbrev hv (W : World) : View := fun k => W.heap[k]?
section
variable {D : Type} {enc : TypeId × Value → D} {P : Program} {W : World} {base : Nat} {spare : Nat → Bool} {held : Bool}
end
end Go.Vc
