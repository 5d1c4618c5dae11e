/-
  DERIVED. GIVEN WITH THE SEED: THE CARDS: each row of YtmdoicffgeihcaaGreatDoorRows.lean that lists a variable, with what it lists TIED to the program's text (the seventh form; the later family's looks); each row that meets fmt, with fmt's text TOLD by the authors' own Lean function (tested against real Go, not proved from fmt's source: count such statements apart). THE CARD IS WHAT COUNTS. Prove the row's statement (the work); the ties are given (YtmdoicffgeihcaaGreatDoorTie.lean); close each card by the builder's one call (the guide's Derived/Test/ToyasCard.lean, 'card_holds'). Laid BY PROGRAM, IN A SANDBOX (cutbox-door.mjs). By AI agents, Wed Nov 11 2026. No macro, syntax, notation, axiom, sorry.
-/
import Derived.Test.YtmdoicffgeihcaaGreatDoorRows
import GoSem.ClaimSeven
namespace Go.Proofs.YtmdoicffgeihcaaGreatDoor
namespace Rows

/-- THE TIED CARD OF 'sextantlaw9.SatSolves'. -/
def satSolvesCard : Claim7 := { stood := { row := satSolvesRow, standIns := [], harness := (true, "f33fc1928986a7c378a373b070f1d281c6530ac1f8e5b1410b5f1473226a722a"), looks := true }, kinds := [], alts := [], laidByText := true, laidKinds := [.handle], laidTests := true, laidLooks := .later }
def SatSolvesCardSaid : Prop := Claim7.holds Tryz.pinned (.plain (OpenSpec.ofChange satSolvesSpec)) satSolvesCard

/-- THE SECOND FORM's CARD OF 'sextantlaw9.SatSolves'. -/
def satSolvesUptoCard : Claim7 := { stood := { row := satSolvesUptoRow, standIns := [], harness := (true, "f33fc1928986a7c378a373b070f1d281c6530ac1f8e5b1410b5f1473226a722a"), looks := true }, kinds := [], alts := [], laidByText := true, laidKinds := [.handle], laidTests := true, laidLooks := .later }
def SatSolvesUptoCardSaid : Prop := Claim7.holds Tryz.pinned (.plain (OpenSpec.upto satSolvesSpec)) satSolvesUptoCard
end Rows
end Go.Proofs.YtmdoicffgeihcaaGreatDoor
