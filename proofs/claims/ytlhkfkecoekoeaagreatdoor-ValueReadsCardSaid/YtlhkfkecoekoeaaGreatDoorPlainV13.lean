/- The laws ValueSorts and ValueBack in plain words. No program in sight. -/
import Derived.Test.YtlhkfkecoekoeaaGreatDoorPlainV12
set_option linter.unusedVariables false
set_option linter.unusedSimpArgs false
namespace Go.Vc
theorem ShowR_ok {t : Str} {Q : Str → Prop} (h : Q (showV (readV t).1)) : V_Show (readV t).1 Q := by
  have := readV_fit t
  exact Show_ok this.1.ev (by omega) h
end Go.Vc
