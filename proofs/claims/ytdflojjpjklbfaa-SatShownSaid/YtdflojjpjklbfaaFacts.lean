/- The closed facts of the program that the walks use. -/
import Derived.Test.YtdflojjpjklbfaaRows
import Derived.Test.YtdflojjpjklbfaaBox
namespace Go.Proofs.Ytdflojjpjklbfaa
theorem Try.mixed : Try.prog.follows .mixedOrders = true := by kernel_rfl
theorem Try.info3 : (Try.prog.info? 3).map (fun i => (i.zero, i.size, i.bytes)) = some (some (.int .i64 0), 1, 8) := by kernel_rfl
theorem Try.info31 : (Try.prog.info? 31).map (fun i => (i.zero, i.size, i.bytes)) = some (some (.slice none 0 0), 1, 24) := by kernel_rfl
theorem Try.info36 : (Try.prog.info? 36).map (fun i => (i.zero, i.size, i.bytes)) = some (some (.agg #[.bool false, .slice none 0 0]), 2, 32) := by kernel_rfl
theorem Try.concrete47 : Try.prog.concrete 47 = true := by kernel_rfl
theorem Try.iface33 : Try.prog.underlying 33 = some (.interface (Try.prog.methodsAt 33)) := by kernel_rfl
end Go.Proofs.Ytdflojjpjklbfaa
