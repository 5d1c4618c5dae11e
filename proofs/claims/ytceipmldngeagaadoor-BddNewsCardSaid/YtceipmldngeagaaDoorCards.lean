/-
  DERIVED. GIVEN WITH THE SEED: THE CARDS: each row of YtceipmldngeagaaDoorRows.lean that lists a variable, with what it lists TIED to the program's text (the seventh form; the later family's looks); each row that meets fmt, with fmt's text TOLD by the authors' own Lean function (tested against real Go, not proved from fmt's source: count such statements apart). THE CARD IS WHAT COUNTS. Prove the row's statement (the work); the ties are given (YtceipmldngeagaaDoorTie.lean); close each card by the builder's one call (the guide's Derived/Test/ToyasCard.lean, 'card_holds'). Laid BY PROGRAM, IN A SANDBOX (cutbox-door.mjs). By AI agents, Wed Nov 11 2026. No macro, syntax, notation, axiom, sorry.
-/
import Derived.Test.YtceipmldngeagaaDoorRows
import GoSem.ClaimSeven
namespace Go.Proofs.YtceipmldngeagaaDoor
namespace Rows

/-- THE TIED CARD OF 'sextantlaw7.BddNews'. -/
def bddNewsCard : Claim7 := { stood := { row := bddNewsRow, standIns := [], harness := (true, "387fa15c1d1c35a278e263544bff361317237874bf231b12dd19beba2c2639b2"), looks := true }, kinds := [], alts := [], laidByText := true, laidKinds := [.handle], laidTests := true, laidLooks := .later }
def BddNewsCardSaid : Prop := Claim7.holds Tryd.pinned (.plain (OpenSpec.ofChange bddNewsSpec)) bddNewsCard

/-- THE SECOND FORM's CARD OF 'sextantlaw7.BddNews'. -/
def bddNewsUptoCard : Claim7 := { stood := { row := bddNewsUptoRow, standIns := [], harness := (true, "387fa15c1d1c35a278e263544bff361317237874bf231b12dd19beba2c2639b2"), looks := true }, kinds := [], alts := [], laidByText := true, laidKinds := [.handle], laidTests := true, laidLooks := .later }
def BddNewsUptoCardSaid : Prop := Claim7.holds Tryd.pinned (.plain (OpenSpec.upto bddNewsSpec)) bddNewsUptoCard
end Rows
end Go.Proofs.YtceipmldngeagaaDoor
