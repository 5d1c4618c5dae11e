/- errors.As at the target '*api.Errno', by its contract: Go's own text of errors.As and errors.as is walked. Began as lines of the kit's worked example ToyasAs.lean, turned to a target of a named integer type. -/
import Derived.Test.YtlhkfkecoekoeaaGreatDoorProg
import Derived.WalkKit
import Derived.LaidEql
import Derived.Stop.Asserts
import Derived.RowKitTokens
namespace Go.Proofs.YtlhkfkecoekoeaaGreatDoor
open Go.RowKit Go.Extern.Stop Go.Stop Go.Extern

/-! ### CLOSED FACTS ON THE MODEL's ENTRIES FOR internal/reflectlite, at this program's types: 25: *p.E · 27: **p.E · 23: error · 45: reflectlite's rtype · 1: how many package-level variables the dump has -/
/-! ### THE ENTRIES THAT READ OR WRITE MEMORY: laws with a premise on the cell (after Derived/Lib/ReflectliteSlice.lean's manner: each unfolding a lemma of its own, by rfl) -/
end Go.Proofs.YtlhkfkecoekoeaaGreatDoor
