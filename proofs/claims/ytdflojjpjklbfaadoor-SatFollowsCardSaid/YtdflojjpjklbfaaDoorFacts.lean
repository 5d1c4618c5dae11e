/- The closed facts of the program that the walks use. -/
import Derived.Test.YtdflojjpjklbfaaDoorRows
import Derived.Test.YtdflojjpjklbfaaDoorBox
namespace Go.Proofs.YtdflojjpjklbfaaDoor
theorem Tryd.mixed : Tryd.prog.follows .mixedOrders = true := by kernel_rfl
theorem Tryd.info3 : (Tryd.prog.info? 3).map (fun i => (i.zero, i.size, i.bytes)) = some (some (.int .i64 0), 1, 8) := by kernel_rfl
theorem Tryd.info23 : (Tryd.prog.info? 23).map (fun i => (i.zero, i.size, i.bytes)) = some (some (.slice none 0 0), 1, 24) := by kernel_rfl
theorem Tryd.concrete40 : Tryd.prog.concrete 40 = true := by kernel_rfl
theorem Tryd.concrete50 : Tryd.prog.concrete 50 = true := by kernel_rfl
theorem Tryd.iface26 : Tryd.prog.underlying 26 = some (.interface (Tryd.prog.methodsAt 26)) := by kernel_rfl
end Go.Proofs.YtdflojjpjklbfaaDoor
