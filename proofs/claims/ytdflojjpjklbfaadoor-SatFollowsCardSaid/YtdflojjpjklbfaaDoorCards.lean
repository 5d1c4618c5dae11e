/-
  DERIVED. GIVEN WITH THE SEED: THE CARDS: each row of YtdflojjpjklbfaaDoorRows.lean that lists a variable, with what it lists TIED to the program's text (the seventh form; the later family's looks); each row that meets fmt, with fmt's text TOLD by the authors' own Lean function (tested against real Go, not proved from fmt's source: count such statements apart). THE CARD IS WHAT COUNTS. Prove the row's statement (the work); the ties are given (YtdflojjpjklbfaaDoorTie.lean); close each card by the builder's one call (the guide's Derived/Test/ToyasCard.lean, 'card_holds'). Laid BY PROGRAM, IN A SANDBOX (cutbox-door.mjs). By AI agents, Wed Nov 11 2026. No macro, syntax, notation, axiom, sorry.
-/
import Derived.Test.YtdflojjpjklbfaaDoorRows
import GoSem.ClaimSeven
namespace Go.Proofs.YtdflojjpjklbfaaDoor
namespace Rows

/-- THE TIED CARD OF 'sextantlaw9.SatFollows'. -/
def satFollowsCard : Claim7 := { stood := { row := satFollowsRow, standIns := [], harness := (true, "cd884dd7f372086fec51e86dd1c594c3cd8a48a6c24db443d0e72d0e60a13e25"), looks := true }, kinds := [], alts := [], laidByText := true, laidKinds := [.handle], laidTests := true, laidLooks := .later }
def SatFollowsCardSaid : Prop := Claim7.holds Tryd.pinned (.plain (OpenSpec.ofChange satFollowsSpec)) satFollowsCard

/-- THE SECOND FORM's CARD OF 'sextantlaw9.SatFollows'. -/
def satFollowsUptoCard : Claim7 := { stood := { row := satFollowsUptoRow, standIns := [], harness := (true, "cd884dd7f372086fec51e86dd1c594c3cd8a48a6c24db443d0e72d0e60a13e25"), looks := true }, kinds := [], alts := [], laidByText := true, laidKinds := [.handle], laidTests := true, laidLooks := .later }
def SatFollowsUptoCardSaid : Prop := Claim7.holds Tryd.pinned (.plain (OpenSpec.upto satFollowsSpec)) satFollowsUptoCard
end Rows
end Go.Proofs.YtdflojjpjklbfaaDoor
