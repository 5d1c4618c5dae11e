/- errors.As at the target '*api.Errno', in the calculus' form; the package-level variable that it reads. -/
import Derived.Test.YtlhkfkecoekoeaaGreatDoorBox
import Derived.Test.YtlhkfkecoekoeaaGreatDoorErrAs
set_option linter.unusedVariables false
namespace Go.Vc
/-- The variable errors.errorType holds the handle of the type error. -/
def Glob (H : View) : Prop := ∃ arr T fz, H 0 = some (.cells arr T fz) ∧ arr[0]? = some (.iface 187 (.agg #[.pointer (some ⟨7, 27, none⟩)]))
theorem Glob.mono {H K : View} (h : Glob H) (hle : View.le H K) : Glob K := by
  obtain ⟨arr, T, fz, h1, h2⟩ := h
  exact ⟨arr, T, fz, hle _ _ h1, h2⟩
end Go.Vc
namespace Go.Proofs.YtlhkfkecoekoeaaGreatDoor
open Go.Vc Go.RowKit
end Go.Proofs.YtlhkfkecoekoeaaGreatDoor
