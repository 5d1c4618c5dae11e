/- Scripts in plain words, part 3: the four statements. No program in sight. -/
import Derived.Test.YtceipmldngeagaaPlainB13
namespace Go.Vc
theorem BddMeans_law {n : Int} {script : Ops} {Q : Bool → Prop} (_ : I64 n) (hb : script.length ≤ 149796 ∧ ∀ o ∈ script, o.2.2.2.2.1.length ≤ 1048576) (h : Q true) : V_BddMeans n script Q := plays_ok hb.1 hb.2 (by omega) h
theorem BddCounts_law {n : Int} {script : Ops} {Q : Bool → Prop} (_ : I64 n) (hb : script.length ≤ 149796 ∧ ∀ o ∈ script, o.2.2.2.2.1.length ≤ 1048576) (h : Q true) : V_BddCounts n script Q := plays_ok hb.1 hb.2 (by omega) h
theorem BddSizes_law {n : Int} {script : Ops} {Q : Bool → Prop} (_ : I64 n) (hb : script.length ≤ 149796 ∧ ∀ o ∈ script, o.2.2.2.2.1.length ≤ 1048576) (h : Q true) : V_BddSizes n script Q := plays_ok hb.1 hb.2 (by omega) h
theorem BddAll_law {n : Int} {script : Ops} {Q : Bool → Prop} (_ : I64 n) (hb : script.length ≤ 149796 ∧ ∀ o ∈ script, o.2.2.2.2.1.length ≤ 1048576) (h : Q true) : V_BddAll n script Q := plays_ok hb.1 hb.2 (by omega) h
end Go.Vc
