/- slices.Sort at []bdd.Node: the kit's contract, in the calculus' form. -/
import Derived.Test.YtceipmldngeagaaRow
import Derived.Test.YtceipmldngeagaaShelf
import Derived.Test.YtceipmldngeagaaFacts
import Derived.Test.YtceipmldngeagaaSrt
set_option linter.unusedVariables false
namespace Go.Proofs.Ytceipmldngeagaa
open Go.Vc Go.Lib Go.Sort Go.RowKit
theorem S_SortN {w0 : World} {H : View} {L : Seg} {w : World} {v : Value} {x : List Int} {fp : Seg} {Q : List Int → Prop} (h : OwnSl H (cInt .i64) 32 v x fp) (hS : St w0 H (fp ++ L) w) (hV : V_SortN x Q) :
    Calls Try.prog 49 #[v] w fun e w' => ∃ (r1 : List Int) (fp1 : Seg), Q r1 ∧ e = .returned (.tuple #[]) ∧ OwnSl H (cInt .i64) 32 v r1 fp1 ∧ St w0 H (fp1 ++ L) w' := by
  obtain ⟨hl, hQ⟩ := hV
  rcases h with ⟨rfl, rfl, rfl⟩ | ⟨b, cap, arr, cs, rest, rfl, rfl, e3, e4, e5, e6, e7⟩
  · refine (Try.slices_Sort_int_none none 0 w).mono ?_
    rintro e w' ⟨rfl, rfl⟩
    exact ⟨_, _, hQ, rfl, by rw [List.mergeSort_nil]; exact OwnSl.nil, hS⟩
  · obtain ⟨rfl, hi⟩ := reps_ints e7
    have hh := hS.holds (Value.int .i64) (d0 := x.toArray) e3
    refine (Try.slices_Sort_int b 0 cap x w hh hS.blk hl).mono ?_
    rintro e w' ⟨rfl, n, os, hw⟩
    have hlen : (x.mergeSort fun x y => decide (x ≤ y)).length = x.length := List.length_mergeSort _
    obtain ⟨arr', f1, f2, f3⟩ := hS.row (Value.int .i64) (d0 := x.toArray) (d := (x.mergeSort fun x y => decide (x ≤ y)).toArray) e3 (by simp [hlen]) hw
    exact ⟨_, _, hQ, rfl, .inr ⟨b, cap, arr', _, rest, by rw [hlen], rfl, f1, by rw [f2, e4], by omega, e6, ints_reps fun y hy => hi y (List.mem_mergeSort.1 hy)⟩, f3⟩
end Go.Proofs.Ytceipmldngeagaa
