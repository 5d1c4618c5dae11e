/- The closed facts of the program that the walks use. -/
import Derived.Test.YthndbddongefoaaRows
import Derived.Test.YthndbddongefoaaMem
namespace Go.Proofs.Ythndbddongefoaa
theorem Try.mixed : Try.prog.follows .mixedOrders = true := by kernel_rfl
theorem Try.info3 : (Try.prog.info? 3).map (fun i => (i.zero, i.size, i.bytes)) = some (some (.int .i64 0), 1, 8) := by kernel_rfl
end Go.Proofs.Ythndbddongefoaa
