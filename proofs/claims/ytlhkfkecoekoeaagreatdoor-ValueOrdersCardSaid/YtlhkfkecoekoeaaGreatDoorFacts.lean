/- The closed facts of the program that the walks use. -/
import Derived.Test.YtlhkfkecoekoeaaGreatDoorRows
import Derived.Test.YtlhkfkecoekoeaaGreatDoorAl
namespace Go.Proofs.YtlhkfkecoekoeaaGreatDoor
theorem Tryz.mixed : Tryz.prog.follows .mixedOrders = true := by kernel_rfl
theorem Tryz.info3 : (Tryz.prog.info? 3).map (fun i => (i.zero, i.size, i.bytes)) = some (some (.int .i64 0), 1, 8) := by kernel_rfl
theorem Tryz.info9 : (Tryz.prog.info? 9).map (fun i => (i.zero, i.size, i.bytes)) = some (some (.string ⟨#[]⟩), 1, 16) := by kernel_rfl
theorem Tryz.info25 : (Tryz.prog.info? 25).map (fun i => (i.zero, i.size, i.bytes)) = some (some (.agg #[.nilIface]), 1, 16) := by kernel_rfl
theorem Tryz.info32 : (Tryz.prog.info? 32).map (fun i => (i.zero, i.size, i.bytes)) = some (some (.agg #[.int .i64 0, .int .i64 0, .string ⟨#[]⟩, .slice none 0 0, .slice none 0 0]), 5, 80) := by kernel_rfl
theorem Tryz.concrete59 : Tryz.prog.concrete 59 = true := by kernel_rfl
theorem Tryz.concrete86 : Tryz.prog.concrete 86 = true := by kernel_rfl
theorem Tryz.concrete87 : Tryz.prog.concrete 87 = true := by kernel_rfl
theorem Tryz.concrete89 : Tryz.prog.concrete 89 = true := by kernel_rfl
theorem Tryz.concrete91 : Tryz.prog.concrete 91 = true := by kernel_rfl
theorem Tryz.concrete93 : Tryz.prog.concrete 93 = true := by kernel_rfl
theorem Tryz.concrete97 : Tryz.prog.concrete 97 = true := by kernel_rfl
theorem Tryz.iface23 : Tryz.prog.underlying 23 = some (.interface (Tryz.prog.methodsAt 23)) := by kernel_rfl
theorem Tryz.iface27 : Tryz.prog.underlying 27 = some (.interface (Tryz.prog.methodsAt 27)) := by kernel_rfl
end Go.Proofs.YtlhkfkecoekoeaaGreatDoor
