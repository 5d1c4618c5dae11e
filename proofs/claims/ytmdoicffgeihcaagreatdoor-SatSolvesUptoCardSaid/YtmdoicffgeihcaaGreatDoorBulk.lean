/- How long lists may be whose bulk is bounded. -/
import Derived.Test.YtmdoicffgeihcaaGreatDoorRows
import Derived.Test.YtmdoicffgeihcaaGreatDoorRead
set_option linter.unusedVariables false
namespace Go.Proofs.YtmdoicffgeihcaaGreatDoor
open Go Go.Vc
theorem bulk_pos {H : Type} : ∀ d : DataW H, 1 ≤ Rows.uptoBulk d
  | .lit l => by cases l <;> simp [Rows.uptoBulk]
  | .nil => by simp [Rows.uptoBulk]
  | .ptr d => by simp [Rows.uptoBulk]
  | .slice a b => by simp [Rows.uptoBulk]
  | .agg a => by simp [Rows.uptoBulk]
  | .iface _ d => by simp [Rows.uptoBulk]
  | .map a => by simp [Rows.uptoBulk]
  | .held _ => by simp [Rows.uptoBulk]
theorem bulk_get {H : Type} : ∀ {l : List (DataW H)} {i : Nat} {d : DataW H}, l[i]? = some d → Rows.uptoBulk d ≤ Rows.uptoBulkAll l
  | a :: l, 0, d, h => by
    simp at h; subst h
    show _ ≤ Rows.uptoBulk a + Rows.uptoBulkAll l; omega
  | a :: l, i + 1, d, h => by
    have := bulk_get (l := l) (i := i) (by simpa using h)
    show _ ≤ Rows.uptoBulk a + Rows.uptoBulkAll l; omega
theorem bulk_len {H : Type} : ∀ {l : List (DataW H)}, l.length ≤ Rows.uptoBulkAll l
  | [] => by simp [Rows.uptoBulkAll]
  | a :: l => by
    have h1 := bulk_pos a
    have h2 := bulk_len (l := l)
    show _ ≤ Rows.uptoBulk a + Rows.uptoBulkAll l
    rw [List.length_cons]; omega
theorem bulk_list {H : Type} {α : Type} {rel : DataW H → α → Prop} {d : DataW H} {ys : List α} (h : relSl rel d ys) : ys.length ≤ Rows.uptoBulk d := by
  rcases h with ⟨rfl, rfl⟩ | ⟨elems, sp, rfl, hl, _⟩
  · simp
  · have := bulk_len (l := elems)
    show _ ≤ Rows.uptoBulkAll elems + Rows.uptoBulkAll sp + 1
    omega
theorem bulk_flat {H : Type} {α : Type} {rel : DataW H → α → Prop} {d : DataW H} {ys : List α} (h : relSl rel d ys) (hb : Rows.uptoBulk d ≤ 1048576) : ys.length ≤ 1048576 := Nat.le_trans (bulk_list h) hb
theorem bulk_lists {H : Type} {α : Type} {rel : DataW H → α → Prop} {d : DataW H} {ys : List (List α)} (h : relSl (relSl rel) d ys) (hb : Rows.uptoBulk d ≤ 1048576) : ys.length ≤ 1048576 ∧ ∀ y ∈ ys, y.length ≤ 1048576 := by
  refine ⟨bulk_flat h hb, ?_⟩
  rcases h with ⟨rfl, rfl⟩ | ⟨elems, sp, rfl, hl, hel⟩
  · simp
  · have hs : Rows.uptoBulkAll elems + Rows.uptoBulkAll sp + 1 ≤ 1048576 := hb
    intro y hy
    obtain ⟨i, hi, rfl⟩ := List.getElem_of_mem hy
    have hie : i < elems.length := by omega
    have a := bulk_list (hel i _ _ (List.getElem?_eq_getElem hie) (List.getElem?_eq_getElem hi))
    have b := bulk_get (List.getElem?_eq_getElem hie)
    omega
end Go.Proofs.YtmdoicffgeihcaaGreatDoor
