/- The closed facts of the program that the walks use. -/
import Derived.Test.YtceipmldngeagaaDoorRows
import Derived.Test.YtceipmldngeagaaDoorMore
namespace Go.Proofs.YtceipmldngeagaaDoor
theorem Tryd.mixed : Tryd.prog.follows .mixedOrders = true := by kernel_rfl
theorem Tryd.info3 : (Tryd.prog.info? 3).map (fun i => (i.zero, i.size, i.bytes)) = some (some (.int .i64 0), 1, 8) := by kernel_rfl
theorem Tryd.info29 : (Tryd.prog.info? 29).map (fun i => (i.zero, i.size, i.bytes)) = some (some (.int .i64 0), 1, 8) := by kernel_rfl
theorem Tryd.info46 : (Tryd.prog.info? 46).map (fun i => (i.zero, i.size, i.bytes)) = some (some (.agg #[.int .i64 0, .int .i64 0, .int .i64 0]), 3, 24) := by kernel_rfl
theorem Tryd.concrete37 : Tryd.prog.concrete 37 = true := by kernel_rfl
theorem Tryd.concrete55 : Tryd.prog.concrete 55 = true := by kernel_rfl
theorem Tryd.iface25 : Tryd.prog.underlying 25 = some (.interface (Tryd.prog.methodsAt 25)) := by kernel_rfl
theorem Tryd.ptr23 : Tryd.prog.underlying 23 = some (.pointer (Tryd.prog.pointee 23)) := by kernel_rfl
open Go.Vc
theorem Tryd.key29 : KeyOK Tryd.prog 29 kInt := KeyOK.int Tryd.underlying29
theorem Tryd.key46 : KeyOK Tryd.prog 46 kTri := KeyOK.struct Tryd.underlying46 (by kernel_rfl) (by decide) (by decide) (by decide) rfl rfl rfl Tryd.underlying3 Tryd.underlying29 Tryd.underlying29 Tryd.isAgg3 Tryd.isAgg29 Tryd.isAgg29
theorem Tryd.key57 : KeyOK Tryd.prog 57 kTri := by obtain ⟨i, hI, _⟩ := info_parts Tryd.info29; exact KeyOK.array Tryd.underlying57 Tryd.underlying29 hI Tryd.sizeOf29 (by kernel_rfl) Tryd.isAgg29
end Go.Proofs.YtceipmldngeagaaDoor
