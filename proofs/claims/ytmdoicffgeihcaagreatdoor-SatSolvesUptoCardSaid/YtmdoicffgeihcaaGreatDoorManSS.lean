/- What the walks of the search use of Go's library: slices.Sort and slices.Compact, by the kit's contracts. -/
import Derived.Test.YtmdoicffgeihcaaGreatDoorRow
import Derived.Test.YtmdoicffgeihcaaGreatDoorShelf
import Derived.Test.YtmdoicffgeihcaaGreatDoorFacts
import Derived.Test.YtmdoicffgeihcaaGreatDoorAlc
import Derived.Lib.RowBridge
set_option linter.unusedVariables false
namespace Go.Vc
def V_SortI (xs : List Int) (Q : List Int → Prop) : Prop := xs.length < 4611686018427387904 ∧ Q (xs.mergeSort fun x y => decide (x ≤ y))
def V_CompactI (xs : List Int) (Q : List Int → Prop) : Prop := Q (Go.Lib.compact xs)
end Go.Vc
namespace Go.Proofs.YtmdoicffgeihcaaGreatDoor
open Go.Vc Go.Lib Go.Sort Go.RowKit
theorem S_SortI {w0 : World} {H : View} {L : Seg} {w : World} {v : Value} {x : List Int} {fp : Seg} {Q : List Int → Prop} (h : OwnSl H (cInt .i64) 3 v x fp) (hS : St w0 H (fp ++ L) w) (hV : V_SortI x Q) :
    Calls Tryz.prog 57 #[v] w fun e w' => ∃ (r1 : List Int) (fp1 : Seg), Q r1 ∧ e = .returned (.tuple #[]) ∧ OwnSl H (cInt .i64) 3 v r1 fp1 ∧ St w0 H (fp1 ++ L) w' := by
  obtain ⟨hl, hQ⟩ := hV
  rcases h with ⟨rfl, rfl, rfl⟩ | ⟨b, cap, arr, cs, rest, rfl, rfl, e3, e4, e5, e6, e7⟩
  · refine (Tryz.slices_Sort_int_none none 0 w).mono ?_
    rintro e w' ⟨rfl, rfl⟩
    exact ⟨_, _, hQ, rfl, by rw [List.mergeSort_nil]; exact OwnSl.nil, hS⟩
  · obtain ⟨rfl, hi⟩ := reps_ints e7
    have hh := hS.holds (Value.int .i64) (d0 := x.toArray) e3
    refine (Tryz.slices_Sort_int b 0 cap x w hh hS.blk hl).mono ?_
    rintro e w' ⟨rfl, n, os, hw⟩
    have hlen : (x.mergeSort fun x y => decide (x ≤ y)).length = x.length := List.length_mergeSort _
    obtain ⟨arr', f1, f2, f3⟩ := hS.row (Value.int .i64) (d0 := x.toArray) (d := (x.mergeSort fun x y => decide (x ≤ y)).toArray) e3 (by simp [hlen]) hw
    exact ⟨_, _, hQ, rfl, .inr ⟨b, cap, arr', _, rest, by rw [hlen], rfl, f1, by rw [f2, e4], by omega, e6, ints_reps fun y hy => hi y (List.mem_mergeSort.1 hy)⟩, f3⟩
theorem S_CompactI {w0 : World} {H : View} {L : Seg} {w : World} {v : Value} {x : List Int} {fp : Seg} {Q : List Int → Prop} (h : OwnSl H (cInt .i64) 3 v x fp) (hS : St w0 H (fp ++ L) w) (hV : V_CompactI x Q) :
    Calls Tryz.prog 58 #[v] w fun e w' => ∃ (r1 : List Int) (v1 : Value) (fp1 : Seg), Q r1 ∧ e = .returned v1 ∧ OwnSl H (cInt .i64) 3 v1 r1 fp1 ∧ St w0 H (fp1 ++ L) w' := by
  rcases h with ⟨rfl, rfl, rfl⟩ | ⟨b, cap, arr, cs, rest, rfl, rfl, e3, e4, e5, e6, e7⟩
  · refine (Tryz.slices_Compact_int_empty none 0 w).mono ?_
    rintro e w' ⟨rfl, rfl⟩
    exact ⟨_, _, _, hV, rfl, OwnSl.nil, hS⟩
  · obtain ⟨rfl, hi⟩ := reps_ints e7
    have hh := hS.holds (Value.int .i64) (d0 := x.toArray) e3
    refine (Tryz.slices_Compact_int b 0 cap x w hh (by unfold maxLen at e6; omega) e5).mono ?_
    rintro e w' ⟨rfl, n, hw⟩
    have hle := Lib.compact_length_le x
    have hds : ((Lib.compact x ++ List.replicate (x.length - (Lib.compact x).length) 0).toArray).size = x.toArray.size := by simp; omega
    have hdl : ((Lib.compact x ++ List.replicate (x.length - (Lib.compact x).length) 0).toArray).toList = Lib.compact x ++ List.replicate (x.length - (Lib.compact x).length) 0 := rfl
    generalize (Lib.compact x ++ List.replicate (x.length - (Lib.compact x).length) 0).toArray = d at hw hds hdl
    have hw2 := hw.trans (grow_empty _).symm
    obtain ⟨arr', f1, f2, f3⟩ := hS.row (Value.int .i64) (d0 := x.toArray) e3 hds hw2
    rw [hdl] at f1
    simp only [List.map_append, List.append_assoc] at f1
    exact ⟨_, _, _, hV, rfl, .inr ⟨b, cap, arr', _, _, rfl, rfl, f1, by rw [f2, e4], by omega, e6, ints_reps fun y hy => hi y (mem_compact.1 hy)⟩, f3⟩
end Go.Proofs.YtmdoicffgeihcaaGreatDoor
