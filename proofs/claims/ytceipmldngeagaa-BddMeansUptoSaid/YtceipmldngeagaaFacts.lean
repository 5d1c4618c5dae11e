/- The closed facts of the program that the walks use. -/
import Derived.Test.YtceipmldngeagaaRows
import Derived.Test.YtceipmldngeagaaMore
namespace Go.Proofs.Ytceipmldngeagaa
theorem Try.mixed : Try.prog.follows .mixedOrders = true := by kernel_rfl
theorem Try.info3 : (Try.prog.info? 3).map (fun i => (i.zero, i.size, i.bytes)) = some (some (.int .i64 0), 1, 8) := by kernel_rfl
theorem Try.info4 : (Try.prog.info? 4).map (fun i => (i.zero, i.size, i.bytes)) = some (some (.bool false), 1, 1) := by kernel_rfl
theorem Try.info28 : (Try.prog.info? 28).map (fun i => (i.zero, i.size, i.bytes)) = some (some (.slice none 0 0), 1, 24) := by kernel_rfl
theorem Try.info32 : (Try.prog.info? 32).map (fun i => (i.zero, i.size, i.bytes)) = some (some (.int .i64 0), 1, 8) := by kernel_rfl
theorem Try.info81 : (Try.prog.info? 81).map (fun i => (i.zero, i.size, i.bytes)) = some (some (.agg #[.int .i64 0, .int .i64 0, .int .i64 0]), 3, 24) := by kernel_rfl
theorem Try.concrete74 : Try.prog.concrete 74 = true := by kernel_rfl
theorem Try.iface43 : Try.prog.underlying 43 = some (.interface (Try.prog.methodsAt 43)) := by kernel_rfl
theorem Try.ptr25 : Try.prog.underlying 25 = some (.pointer (Try.prog.pointee 25)) := by kernel_rfl
theorem Try.ptr36 : Try.prog.underlying 36 = some (.pointer (Try.prog.pointee 36)) := by kernel_rfl
open Go.Vc
theorem Try.key32 : KeyOK Try.prog 32 kInt := KeyOK.int Try.underlying32
theorem Try.key81 : KeyOK Try.prog 81 kTri := KeyOK.struct Try.underlying81 (by kernel_rfl) (by decide) (by decide) (by decide) rfl rfl rfl Try.underlying3 Try.underlying32 Try.underlying32 Try.isAgg3 Try.isAgg32 Try.isAgg32
theorem Try.key96 : KeyOK Try.prog 96 kTri := by obtain ⟨i, hI, _⟩ := info_parts Try.info32; exact KeyOK.array Try.underlying96 Try.underlying32 hI Try.sizeOf32 (by kernel_rfl) Try.isAgg32
end Go.Proofs.Ytceipmldngeagaa
