/- The laws ValueSorts and ValueBack in plain words. No program in sight. -/
import Derived.Test.YtlhkfkecoekoeaaGreatDoorPlainV12
set_option linter.unusedVariables false
set_option linter.unusedSimpArgs false
namespace Go.Vc
theorem Cmp_ok {a b : Val} {Q : Int → Prop} (ha : Fit a) (hb : Fit b) (h : Q (cmpV a b)) : ∃ m, V_Compare m a b Q := ⟨_, Compare_ok _ (Nat.lt_succ_self _) ha.hv hb.hv h⟩
end Go.Vc
