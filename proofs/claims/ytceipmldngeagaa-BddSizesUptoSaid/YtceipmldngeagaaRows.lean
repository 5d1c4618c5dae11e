/-
  No cell of these rows narrows 'for every input' (looked for: loops, veiled, ifaces, maps, wideKeys, modest, calm, conditions, laid).
  DERIVED. THE GIVEN ROWS OF THIS SEAT. 4 by the template 'for every input the law returns true; each argument reads behind the call as it read before'; 0 by the template 'total and deterministic' (their statements: YtceipmldngeagaaTotals.lean).
  GIVEN WITH THE SEED: the statements are not yours to turn. If you find one false, say at which input.
  Laid BY PROGRAM, IN A SANDBOX (cutbox-rows.mjs): the forced cells as the released guide's own fill.sh prints them over the translation 300f333fa5b99584… (all of the seat's roots in one cut). By AI agents, Wed Nov 11 2026. No macro, syntax, notation, axiom, sorry.
-/
import Derived.Test.YtceipmldngeagaaChecked
import GoSem.Claim
import GoSem.ClaimJoined
import GoSem.ClaimMapViews
import Derived.JoinedTies
import Derived.KernelRfl
namespace Go.Proofs.Ytceipmldngeagaa
/- THE CELL 'sum', in the pinned program and in every row, IS THE sha256 OF THE DUMP (.gsa) THAT YtceipmldngeagaaProg.lean LOADS. Nothing in Lean hashes anything: it is a label: what it is worth is what the hold of that sum in a sandbox is worth. -/
noncomputable def Try.pinned : Pinned := { name := "ytceipmldngeagaa", sum := "300f333fa5b99584ac7a78e067fb511acf8ec5e6d6777e16e601c513bbbc13a2", checked := Try.checked }
namespace Rows
def none {H : Type} : Left H := { results := [], args := [] }

/-- 'sextantlaw7.BddMeans': WHATEVER THE INPUT: true; the input reads as it did. -/
def bddMeansSpec : ChangeSpec := { name := "bddMeans", fn := fun _ => fun
  | [d1, d2] => { results := [.lit (.bool true)], args := [d1, d2] }
  | _ => none }
def bddMeansRow : OpenClaim := { program := "ytceipmldngeagaa", sum := "300f333fa5b99584ac7a78e067fb511acf8ec5e6d6777e16e601c513bbbc13a2", func := "sextant/sextantlaw7.BddMeans", spec := "bddMeans", unfollowed := true, recurses := true, plainKeys := false, apart := false }
def BddMeansSaid : Prop := bddMeansRow.holds Try.pinned (OpenSpec.ofChange bddMeansSpec)

/-- ITS FALSE NEIGHBOUR: 'it returns false'. Refute it at one input. -/
def bddMeansWrong : ChangeSpec := { name := "bddMeans", fn := fun _ => fun
  | [d1, d2] => { results := [.lit (.bool false)], args := [d1, d2] }
  | _ => none }
def BddMeansWrongFalsely : Prop := bddMeansRow.holds Try.pinned (OpenSpec.ofChange bddMeansWrong)

/-- 'sextantlaw7.BddCounts': WHATEVER THE INPUT: true; the input reads as it did. -/
def bddCountsSpec : ChangeSpec := { name := "bddCounts", fn := fun _ => fun
  | [d1, d2] => { results := [.lit (.bool true)], args := [d1, d2] }
  | _ => none }
def bddCountsRow : OpenClaim := { program := "ytceipmldngeagaa", sum := "300f333fa5b99584ac7a78e067fb511acf8ec5e6d6777e16e601c513bbbc13a2", func := "sextant/sextantlaw7.BddCounts", spec := "bddCounts", unfollowed := true, recurses := true, plainKeys := false, apart := false }
def BddCountsSaid : Prop := bddCountsRow.holds Try.pinned (OpenSpec.ofChange bddCountsSpec)

/-- ITS FALSE NEIGHBOUR: 'it returns false'. Refute it at one input. -/
def bddCountsWrong : ChangeSpec := { name := "bddCounts", fn := fun _ => fun
  | [d1, d2] => { results := [.lit (.bool false)], args := [d1, d2] }
  | _ => none }
def BddCountsWrongFalsely : Prop := bddCountsRow.holds Try.pinned (OpenSpec.ofChange bddCountsWrong)

/-- 'sextantlaw7.BddSizes': WHATEVER THE INPUT: true; the input reads as it did. -/
def bddSizesSpec : ChangeSpec := { name := "bddSizes", fn := fun _ => fun
  | [d1, d2] => { results := [.lit (.bool true)], args := [d1, d2] }
  | _ => none }
def bddSizesRow : OpenClaim := { program := "ytceipmldngeagaa", sum := "300f333fa5b99584ac7a78e067fb511acf8ec5e6d6777e16e601c513bbbc13a2", func := "sextant/sextantlaw7.BddSizes", spec := "bddSizes", unfollowed := true, recurses := true, plainKeys := false, apart := false }
def BddSizesSaid : Prop := bddSizesRow.holds Try.pinned (OpenSpec.ofChange bddSizesSpec)

/-- ITS FALSE NEIGHBOUR: 'it returns false'. Refute it at one input. -/
def bddSizesWrong : ChangeSpec := { name := "bddSizes", fn := fun _ => fun
  | [d1, d2] => { results := [.lit (.bool false)], args := [d1, d2] }
  | _ => none }
def BddSizesWrongFalsely : Prop := bddSizesRow.holds Try.pinned (OpenSpec.ofChange bddSizesWrong)

/-- 'sextantlaw7.BddAll': WHATEVER THE INPUT: true; the input reads as it did. -/
def bddAllSpec : ChangeSpec := { name := "bddAll", fn := fun _ => fun
  | [d1, d2] => { results := [.lit (.bool true)], args := [d1, d2] }
  | _ => none }
def bddAllRow : OpenClaim := { program := "ytceipmldngeagaa", sum := "300f333fa5b99584ac7a78e067fb511acf8ec5e6d6777e16e601c513bbbc13a2", func := "sextant/sextantlaw7.BddAll", spec := "bddAll", unfollowed := true, recurses := true, plainKeys := false, apart := false }
def BddAllSaid : Prop := bddAllRow.holds Try.pinned (OpenSpec.ofChange bddAllSpec)

/-- ITS FALSE NEIGHBOUR: 'it returns false'. Refute it at one input. -/
def bddAllWrong : ChangeSpec := { name := "bddAll", fn := fun _ => fun
  | [d1, d2] => { results := [.lit (.bool false)], args := [d1, d2] }
  | _ => none }
def BddAllWrongFalsely : Prop := bddAllRow.holds Try.pinned (OpenSpec.ofChange bddAllWrong)

/- THE SECOND FORM. 'bulk': how many values and letters a reading holds, each counted each time it is reached (what is shared counts as often as it is met; a slice's spare places count too). A statement '..UptoSaid' is the law's where the arguments, and the package variables that the reading takes, are together of bulk at most 1048576: NARROWER than '..Said'. Prove '..Said' where nothing that the law and all that it calls make is longer than what came in: it says more and counts as full. Else prove '..UptoSaid'. A law counts once. -/
mutual
def uptoBulk {H : Type} : DataW H → Nat
  | .lit (.string bytes) => bytes.length + 1
  | .lit _ => 1
  | .nil => 1
  | .ptr d => uptoBulk d + 1
  | .slice elems spare => uptoBulkAll elems + uptoBulkAll spare + 1
  | .agg parts => uptoBulkAll parts + 1
  | .iface _ d => uptoBulk d + 1
  | .map entries => uptoBulkEntries entries + 1
  | .held _ => 1
def uptoBulkAll {H : Type} : List (DataW H) → Nat
  | [] => 0
  | d :: r => uptoBulk d + uptoBulkAll r
def uptoBulkEntries {H : Type} : List (Lit × DataW H) → Nat
  | [] => 0
  | x :: r => uptoBulkEntry x + uptoBulkEntries r
def uptoBulkEntry {H : Type} : Lit × DataW H → Nat
  | (.string bytes, d) => bytes.length + uptoBulk d + 1
  | (_, d) => uptoBulk d + 1
 end
def uptoSmall : (H : Type) → List (DataW H) → Bool := fun _ ds => decide (uptoBulkAll ds ≤ 1048576)
def OpenSpec.upto (s : _root_.Go.ChangeSpec) : _root_.Go.OpenSpec := { _root_.Go.OpenSpec.ofChange s with cond := some uptoSmall }

/-- 'sextantlaw7.BddMeans', WHERE WHAT IT READS IS OF BULK AT MOST 1048576: true; the input reads as it did. -/
def bddMeansUptoRow : OpenClaim := { program := "ytceipmldngeagaa", sum := "300f333fa5b99584ac7a78e067fb511acf8ec5e6d6777e16e601c513bbbc13a2", func := "sextant/sextantlaw7.BddMeans", spec := "bddMeans", unfollowed := true, recurses := true, plainKeys := false, apart := false, narrowed := true }
def BddMeansUptoSaid : Prop := bddMeansUptoRow.holds Try.pinned (OpenSpec.upto bddMeansSpec)

/-- 'sextantlaw7.BddCounts', WHERE WHAT IT READS IS OF BULK AT MOST 1048576: true; the input reads as it did. -/
def bddCountsUptoRow : OpenClaim := { program := "ytceipmldngeagaa", sum := "300f333fa5b99584ac7a78e067fb511acf8ec5e6d6777e16e601c513bbbc13a2", func := "sextant/sextantlaw7.BddCounts", spec := "bddCounts", unfollowed := true, recurses := true, plainKeys := false, apart := false, narrowed := true }
def BddCountsUptoSaid : Prop := bddCountsUptoRow.holds Try.pinned (OpenSpec.upto bddCountsSpec)

/-- 'sextantlaw7.BddSizes', WHERE WHAT IT READS IS OF BULK AT MOST 1048576: true; the input reads as it did. -/
def bddSizesUptoRow : OpenClaim := { program := "ytceipmldngeagaa", sum := "300f333fa5b99584ac7a78e067fb511acf8ec5e6d6777e16e601c513bbbc13a2", func := "sextant/sextantlaw7.BddSizes", spec := "bddSizes", unfollowed := true, recurses := true, plainKeys := false, apart := false, narrowed := true }
def BddSizesUptoSaid : Prop := bddSizesUptoRow.holds Try.pinned (OpenSpec.upto bddSizesSpec)

/-- 'sextantlaw7.BddAll', WHERE WHAT IT READS IS OF BULK AT MOST 1048576: true; the input reads as it did. -/
def bddAllUptoRow : OpenClaim := { program := "ytceipmldngeagaa", sum := "300f333fa5b99584ac7a78e067fb511acf8ec5e6d6777e16e601c513bbbc13a2", func := "sextant/sextantlaw7.BddAll", spec := "bddAll", unfollowed := true, recurses := true, plainKeys := false, apart := false, narrowed := true }
def BddAllUptoSaid : Prop := bddAllUptoRow.holds Try.pinned (OpenSpec.upto bddAllSpec)

end Rows
end Go.Proofs.Ytceipmldngeagaa
