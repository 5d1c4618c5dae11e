/- From the kit's row contracts ('Holds', 'putRow', 'grow', 'ahead') to the calculus' owned slices. -/
import Derived.Test.YtmdoicffgeihcaaGreatDoorBox
import Derived.Sort.Grow
import Derived.Lib.SlicesCompact
set_option linter.unusedVariables false
namespace Go.Vc
open Go Go.RowKit Go.Lib Go.Sort

theorem putCells_row {α : Type} [Inhabited α] (enc : α → Value) (arr : Array Value) (d0 d : Array α) (rest : List Value) (h : arr.toList = d0.toList.map enc ++ rest) (hs : d.size = d0.size) :
    (putCells enc 0 d arr).toList = d.toList.map enc ++ rest := by
  apply List.ext_getElem?
  intro k
  have hk : arr.toList[k]? = (d0.toList.map enc ++ rest)[k]? := by rw [h]
  simp only [putCells]
  rw [Array.getElem?_toList] at *
  rw [Array.getElem?_mapIdx, hk]
  by_cases hlt : k < d.size
  · rw [List.getElem?_append_left (by simp; omega), List.getElem?_append_left (by simp; omega)]
    simp [hlt, hs ▸ hlt]
  · rw [List.getElem?_append_right (by simp; omega), List.getElem?_append_right (by simp; omega)]
    simp only [List.length_map, Array.length_toList, hs, Nat.zero_le, true_and, Nat.zero_add]
    rw [hs] at hlt
    simp only [hlt, if_false]
    cases rest[k - d0.size]? <;> rfl

/-- The block of a row, written anew. -/
theorem St.row {α : Type} [Inhabited α] {w0 w w' : World} {H : View} {L : Seg} (enc : α → Value) {b n : Nat} {arr : Array Value} {T : TypeId} {d0 d : Array α} {rest : List Value} {os : Array Obj}
    (h : St w0 H ([(b, .cells arr T (0, 0))] ++ L) w) (ha : arr.toList = d0.toList.map enc ++ rest) (hs : d.size = d0.size) (hw : w' = grow (putRow enc (Sort.ahead w n) b 0 d) os) :
    ∃ arr', arr'.toList = d.toList.map enc ++ rest ∧ arr'.size = arr.size ∧ St w0 H ([(b, .cells arr' T (0, 0))] ++ L) w' := by
  refine ⟨putCells enc 0 d arr, putCells_row enc arr d0 d rest ha hs, by simp [putCells], ?_⟩
  have hb := h.own (b, .cells arr T (0, 0)) (by simp)
  have hlt := (Array.getElem?_eq_some_iff.1 hb).1
  have h1 : St w0 H ([(b, .cells (putCells enc 0 d arr) T (0, 0))] ++ L) (putRow enc (Sort.ahead w n) b 0 d) := by
    refine h.write rfl rfl rfl (by simp [Sort.ahead]) ?_ fun k hk => ?_
    · simp only [putRow, mapBlock, Sort.ahead, Array.getElem?_modify, if_true, hb, Option.map_some]
      rfl
    · simp only [putRow, mapBlock, Sort.ahead, Array.getElem?_modify, if_neg (Ne.symm hk)]
  subst hw
  refine ⟨h1.os, h1.tape, h1.output, ?_, fun k o hk => ?_, fun p hp => ?_, h1.sep, h1.nodup, by first | exact Nat.zero_le _ | simpa [grow] using h1.ahead⟩
  · have := h1.size; simp only [grow, Array.size_append]; omega
  · have h2 := h1.fits k o hk
    have h3 := (Array.getElem?_eq_some_iff.1 h2).1
    simp only [grow]; rw [Array.getElem?_append_left h3]; exact h2
  · have h2 := h1.own p hp
    have h3 := (Array.getElem?_eq_some_iff.1 h2).1
    simp only [grow]; rw [Array.getElem?_append_left h3]; exact h2

theorem St.holds {α : Type} [Inhabited α] {w0 w : World} {H : View} {L : Seg} (enc : α → Value) {b : Nat} {arr : Array Value} {T : TypeId} {d0 : Array α} {rest : List Value}
    (h : St w0 H ([(b, .cells arr T (0, 0))] ++ L) w) (ha : arr.toList = d0.toList.map enc ++ rest) : Holds enc w b 0 d0 := by
  intro j hj
  have hb := h.own (b, .cells arr T (0, 0)) (by simp)
  have hk : arr[j]? = some (enc d0[j]!) := by
    rw [← Array.getElem?_toList, ha, List.getElem?_append_left (by simpa using hj)]
    simp [hj]
  refine ⟨?_, by simp [World.frozen?, hb]⟩
  rw [Nat.zero_add]
  simp only [World.cell?, hb]
  simpa using hk
theorem St.blk {w0 w : World} {H : View} {L : Seg} {b : Nat} {o : Obj} (h : St w0 H ([(b, o)] ++ L) w) : b < w.heap.size := (Array.getElem?_eq_some_iff.1 (h.own (b, o) (by simp))).1

/-- Numbers in cells. -/
theorem reps_ints {H : View} : ∀ {xs : List Int} {cs : List Value}, (cInt .i64).reps H cs xs → cs = xs.map (Value.int .i64) ∧ ∀ x ∈ xs, I64 x
  | [], _, h => by cases h; exact ⟨rfl, by simp⟩
  | x :: xs, cs, ⟨a, b, e, h1, h2⟩ => by
    obtain ⟨rfl, hr⟩ := h1
    obtain ⟨rfl, h3⟩ := reps_ints h2
    refine ⟨by simpa using e, fun y hy => ?_⟩
    rcases List.mem_cons.1 hy with rfl | hy
    · exact has_I64 hr
    · exact h3 y hy
theorem ints_reps {H : View} : ∀ {xs : List Int}, (∀ x ∈ xs, I64 x) → (cInt .i64).reps H (xs.map (Value.int .i64)) xs
  | [], _ => rfl
  | x :: xs, h => ⟨[.int .i64 x], xs.map (Value.int .i64), rfl, ⟨rfl, (h x (by simp)).has⟩, ints_reps fun y hy => h y (by simp [hy])⟩
/-- Cells of one-cell elements, as values of one cell. -/
abbrev OneV := { v : Value // v.oneCell' = true }
instance : Inhabited OneV := ⟨⟨.slice none 0 0, rfl⟩⟩
theorem cells_onev : ∀ {cs : List Value}, (∀ u ∈ cs, u.oneCell' = true) → ∃ ds : List OneV, cs = ds.map (·.1)
  | [], _ => ⟨[], rfl⟩
  | v :: cs, h => by
    obtain ⟨ds, e⟩ := cells_onev (cs := cs) fun u hu => h u (by simp [hu])
    exact ⟨⟨v, h v (by simp)⟩ :: ds, by simp [e]⟩

/-! ### slices.Compact of a sorted list -/
theorem mem_compact {zs : List Int} {x : Int} : x ∈ compact zs ↔ x ∈ zs := by
  constructor
  · intro h
    simp only [compact, compactUpTo, List.mem_map, List.mem_filter, List.mem_range] at h
    obtain ⟨j, ⟨hj, _⟩, rfl⟩ := h
    rw [getElem!_pos _ j (by simpa using hj)]
    simp
  · intro h
    obtain ⟨j, hj, rfl⟩ := List.getElem_of_mem h
    have key : ∀ j, (hj : j < zs.length) → zs[j] ∈ compact zs := by
      intro j
      induction j with
      | zero =>
        intro hj
        simp only [compact, compactUpTo, List.mem_map, List.mem_filter, List.mem_range]
        exact ⟨0, ⟨hj, by simp [keeps]⟩, by rw [getElem!_pos _ 0 (by simpa using hj)]; simp⟩
      | succ j ih =>
        intro hj
        by_cases he : zs[j + 1] = zs[j]
        · rw [he]; exact ih (by omega)
        · simp only [compact, compactUpTo, List.mem_map, List.mem_filter, List.mem_range]
          refine ⟨j + 1, ⟨hj, ?_⟩, by rw [getElem!_pos _ (j + 1) (by simpa using hj)]; simp⟩
          simp only [keeps, decide_eq_true_eq]
          right
          rw [getElem!_pos _ (j + 1) (by simpa using hj), getElem!_pos _ (j + 1 - 1) (by simp; omega)]
          simpa using he
    exact key j hj
theorem compact_strict {zs : List Int} (h : zs.Pairwise (· ≤ ·)) : (compact zs).Pairwise (· < ·) := by
  simp only [compact, compactUpTo]
  rw [List.pairwise_map]
  have hp : (List.filter (keeps zs.toArray) (List.range zs.length)).Pairwise (· < ·) := List.pairwise_lt_range.filter _
  refine hp.imp_of_mem ?_
  intro i j hi hj hij
  simp only [List.mem_filter, List.mem_range, keeps, decide_eq_true_eq] at hi hj
  rw [List.pairwise_iff_getElem] at h
  have hle : ∀ a b, (ha : a < zs.length) → (hb : b < zs.length) → a ≤ b → zs[a] ≤ zs[b] := by
    intro a b ha hb hab
    rcases Nat.lt_or_ge a b with h1 | h1
    · exact h a b ha hb h1
    · have : a = b := by omega
      subst this; exact Int.le_refl _
  obtain ⟨hj1, hj2⟩ := hj
  rcases hj2 with h0 | h2
  · omega
  · rw [getElem!_pos _ i (by simp; omega), getElem!_pos _ j (by simpa using hj1)]
    rw [getElem!_pos _ j (by simpa using hj1), getElem!_pos _ (j - 1) (by simp; omega)] at h2
    simp only [List.getElem_toArray] at h2 ⊢
    have h3 := hle i (j - 1) hi.1 (by omega) (by omega)
    have h4 := hle (j - 1) j (by omega) hj1 (by omega)
    omega
theorem strict_ext {xs ys : List Int} (hx : xs.Pairwise (· < ·)) (hy : ys.Pairwise (· < ·)) (h : ∀ x, x ∈ xs ↔ x ∈ ys) : xs = ys := by
  induction xs generalizing ys with
  | nil =>
    cases ys with
    | nil => rfl
    | cons y ys => exact absurd ((h y).2 (by simp)) (by simp)
  | cons x xs ih =>
    cases ys with
    | nil => exact absurd ((h x).1 (by simp)) (by simp)
    | cons y ys =>
      rw [List.pairwise_cons] at hx hy
      have e : x = y := by
        have h1 := (h x).1 (by simp)
        have h2 := (h y).2 (by simp)
        rcases List.mem_cons.1 h1 with h1 | h1
        · exact h1
        · rcases List.mem_cons.1 h2 with h2 | h2
          · exact h2.symm
          · have := hx.1 y h2; have := hy.1 x h1; omega
      subst e
      refine congrArg _ (ih hx.2 hy.2 fun z => ?_)
      constructor
      · intro hz
        have := hx.1 z hz
        rcases List.mem_cons.1 ((h z).1 (by simp [hz])) with h1 | h1
        · omega
        · exact h1
      · intro hz
        have := hy.1 z hz
        rcases List.mem_cons.1 ((h z).2 (by simp [hz])) with h1 | h1
        · omega
        · exact h1
end Go.Vc
