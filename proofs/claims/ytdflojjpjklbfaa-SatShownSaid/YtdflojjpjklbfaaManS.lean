/- Contracts of Go's library that the kit's shelf has proved, in the calculus' form: slices.Sort, slices.Compact, slices.Delete. -/
import Derived.Test.YtdflojjpjklbfaaRow
import Derived.Test.YtdflojjpjklbfaaShelf
import Derived.Test.YtdflojjpjklbfaaFacts
set_option linter.unusedVariables false
namespace Go.Vc
def V_SortI (xs : List Int) (Q : List Int → Prop) : Prop := xs.length < 4611686018427387904 ∧ Q (xs.mergeSort fun x y => decide (x ≤ y))
def V_CompactI (xs : List Int) (Q : List Int → Prop) : Prop := Q (Go.Lib.compact xs)
def V_DeleteL (xs : List (List Int)) (i j : Int) (Q : List (List Int) → Prop) : Prop := (0 ≤ i ∧ i < j ∧ j ≤ xs.length) ∧ Q (xs.take i.toNat ++ xs.drop j.toNat)
end Go.Vc
namespace Go.Proofs.Ytdflojjpjklbfaa
open Go.Vc Go.Lib Go.Sort Go.RowKit
theorem S_SortI {w0 : World} {H : View} {L : Seg} {w : World} {v : Value} {x : List Int} {fp : Seg} {Q : List Int → Prop} (h : OwnSl H (cInt .i64) 3 v x fp) (hS : St w0 H (fp ++ L) w) (hV : V_SortI x Q) :
    Calls Try.prog 40 #[v] w fun e w' => ∃ (r1 : List Int) (fp1 : Seg), Q r1 ∧ e = .returned (.tuple #[]) ∧ OwnSl H (cInt .i64) 3 v r1 fp1 ∧ St w0 H (fp1 ++ L) w' := by
  obtain ⟨hl, hQ⟩ := hV
  rcases h with ⟨rfl, rfl, rfl⟩ | ⟨b, cap, arr, cs, rest, rfl, rfl, e3, e4, e5, e6, e7⟩
  · refine (Try.slices_Sort_int_none none 0 w).mono ?_
    rintro e w' ⟨rfl, rfl⟩
    exact ⟨_, _, hQ, rfl, by rw [List.mergeSort_nil]; exact OwnSl.nil, hS⟩
  · obtain ⟨rfl, hi⟩ := reps_ints e7
    have hh := hS.holds (Value.int .i64) (d0 := x.toArray) e3
    refine (Try.slices_Sort_int b 0 cap x w hh hS.blk hl).mono ?_
    rintro e w' ⟨rfl, n, os, hw⟩
    have hlen : (x.mergeSort fun x y => decide (x ≤ y)).length = x.length := List.length_mergeSort _
    obtain ⟨arr', f1, f2, f3⟩ := hS.row (Value.int .i64) (d0 := x.toArray) (d := (x.mergeSort fun x y => decide (x ≤ y)).toArray) e3 (by simp [hlen]) hw
    exact ⟨_, _, hQ, rfl, .inr ⟨b, cap, arr', _, rest, by rw [hlen], rfl, f1, by rw [f2, e4], by omega, e6, ints_reps fun y hy => hi y (List.mem_mergeSort.1 hy)⟩, f3⟩
theorem S_CompactI {w0 : World} {H : View} {L : Seg} {w : World} {v : Value} {x : List Int} {fp : Seg} {Q : List Int → Prop} (h : OwnSl H (cInt .i64) 3 v x fp) (hS : St w0 H (fp ++ L) w) (hV : V_CompactI x Q) :
    Calls Try.prog 41 #[v] w fun e w' => ∃ (r1 : List Int) (v1 : Value) (fp1 : Seg), Q r1 ∧ e = .returned v1 ∧ OwnSl H (cInt .i64) 3 v1 r1 fp1 ∧ St w0 H (fp1 ++ L) w' := by
  rcases h with ⟨rfl, rfl, rfl⟩ | ⟨b, cap, arr, cs, rest, rfl, rfl, e3, e4, e5, e6, e7⟩
  · refine (Try.slices_Compact_int_empty none 0 w).mono ?_
    rintro e w' ⟨rfl, rfl⟩
    exact ⟨_, _, _, hV, rfl, OwnSl.nil, hS⟩
  · obtain ⟨rfl, hi⟩ := reps_ints e7
    have hh := hS.holds (Value.int .i64) (d0 := x.toArray) e3
    refine (Try.slices_Compact_int b 0 cap x w hh (by unfold maxLen at e6; omega) e5).mono ?_
    rintro e w' ⟨rfl, n, hw⟩
    have hle := Lib.compact_length_le x
    have hds : ((Lib.compact x ++ List.replicate (x.length - (Lib.compact x).length) 0).toArray).size = x.toArray.size := by simp; omega
    have hdl : ((Lib.compact x ++ List.replicate (x.length - (Lib.compact x).length) 0).toArray).toList = Lib.compact x ++ List.replicate (x.length - (Lib.compact x).length) 0 := rfl
    generalize (Lib.compact x ++ List.replicate (x.length - (Lib.compact x).length) 0).toArray = d at hw hds hdl
    have hw2 := hw.trans (grow_empty _).symm
    obtain ⟨arr', f1, f2, f3⟩ := hS.row (Value.int .i64) (d0 := x.toArray) e3 hds hw2
    rw [hdl] at f1
    simp only [List.map_append, List.append_assoc] at f1
    exact ⟨_, _, _, hV, rfl, .inr ⟨b, cap, arr', _, _, rfl, rfl, f1, by rw [f2, e4], by omega, e6, ints_reps fun y hy => hi y (mem_compact.1 hy)⟩, f3⟩
theorem S_DeleteL {w0 : World} {H : View} {L : Seg} {w : World} {v : Value} {x : List (List Int)} {fp : Seg} {i j : Int} {Q : List (List Int) → Prop} (h : OwnSl H (cSl (cInt .i64)) 31 v x fp) (hi : I64 i) (hj : I64 j) (hS : St w0 H (fp ++ L) w) (hV : V_DeleteL x i j Q) :
    Calls Try.prog 17 #[v, .int .i64 i, .int .i64 j] w fun e w' => ∃ (r1 : List (List Int)) (v1 : Value) (fp1 : Seg), Q r1 ∧ e = .returned v1 ∧ OwnSl H (cSl (cInt .i64)) 31 v1 r1 fp1 ∧ St w0 H (fp1 ++ L) w' := by
  obtain ⟨⟨h0, h1, h2⟩, hQ⟩ := hV
  obtain ⟨i, rfl⟩ := Int.eq_ofNat_of_zero_le h0
  obtain ⟨j, rfl⟩ := Int.eq_ofNat_of_zero_le (Int.le_trans h0 (Int.le_of_lt h1))
  simp only [Int.toNat_natCast] at hQ
  rcases h with ⟨rfl, rfl, rfl⟩ | ⟨b, cap, arr, cs, rest, rfl, rfl, e3, e4, e5, e6, e7⟩
  · simp at h2; omega
  · obtain ⟨ds, rfl⟩ := cells_onev (Codec.reps_one e7)
    have hdl : ds.length = x.length := by have := Codec.reps_length e7; simpa [show (cSl (cInt .i64)).size = 1 from rfl] using this
    have hh := hS.holds (fun v : OneV => v.1) (d0 := ds.toArray) e3
    obtain ⟨i0, hI, hz, h3, hb⟩ := info_parts Try.info31
    have := Try.slices_Delete (fun v : OneV => v.1) (fun v => v.2) ⟨.slice none 0 0, rfl⟩ (fun w => Try.zeroValue31 w) i0 hI h3 b 0 cap i j ds.toArray w hh (by simp; omega) (by unfold maxLen at e6; omega) (by omega) (by simp; omega)
    simp only [List.size_toArray, hdl] at this
    refine this.mono ?_
    rintro e w' ⟨rfl, n, hw⟩
    have hds : ((ds.toArray.toList.take i ++ ds.toArray.toList.drop j ++ List.replicate (j - i) (⟨.slice none 0 0, rfl⟩ : OneV)).toArray).size = ds.toArray.size := by simp; omega
    have hdd : ((ds.toArray.toList.take i ++ ds.toArray.toList.drop j ++ List.replicate (j - i) (⟨.slice none 0 0, rfl⟩ : OneV)).toArray).toList = ds.take i ++ ds.drop j ++ List.replicate (j - i) (⟨.slice none 0 0, rfl⟩ : OneV) := rfl
    generalize (ds.toArray.toList.take i ++ ds.toArray.toList.drop j ++ List.replicate (j - i) (⟨.slice none 0 0, rfl⟩ : OneV)).toArray = d at hw hds hdd
    have hw2 := hw.trans (grow_empty _).symm
    obtain ⟨arr', f1, f2, f3⟩ := hS.row (fun v : OneV => v.1) (d0 := ds.toArray) e3 hds hw2
    rw [hdd] at f1
    simp only [List.map_append, List.append_assoc] at f1
    rw [← List.append_assoc] at f1
    refine ⟨_, _, _, hQ, rfl, .inr ⟨b, cap, arr', _, _, ?_, rfl, f1, by rw [f2, e4], by simp; omega, e6, ?_⟩, f3⟩
    · congr 1
      simp; omega
    · obtain ⟨a1, b1, g1, g2, _⟩ := Codec.reps_split (xs := x.take i) (ys := x.drop i) (by rw [List.take_append_drop]; exact e7)
      obtain ⟨a2, b2, g3, g4, g5⟩ := Codec.reps_split (xs := x.take j) (ys := x.drop j) (by rw [List.take_append_drop]; exact e7)
      have l1 : a1.length = i := by have := Codec.reps_length g2; rw [show (cSl (cInt .i64)).size = 1 from rfl, List.length_take] at this; omega
      have l2 : a2.length = j := by have := Codec.reps_length g4; rw [show (cSl (cInt .i64)).size = 1 from rfl, List.length_take] at this; omega
      have k1 : a1 = (ds.take i).map (fun v => v.1) := by rw [List.map_take, g1, ← l1, List.take_left]
      have k2 : b2 = (ds.drop j).map (fun v => v.1) := by rw [List.map_drop, g3, ← l2, List.drop_left]
      refine Codec.reps_append ?_ ?_
      · rw [← k1]; exact g2
      · rw [← k2]; exact g5
end Go.Proofs.Ytdflojjpjklbfaa
