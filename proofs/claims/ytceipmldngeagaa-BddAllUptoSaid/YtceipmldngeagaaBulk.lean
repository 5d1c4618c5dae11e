/- How long a script may be whose bulk is bounded. -/
import Derived.Test.YtceipmldngeagaaRows
import Derived.Test.YtceipmldngeagaaRead
set_option linter.unusedVariables false
namespace Go.Proofs.Ytceipmldngeagaa
open Go Go.Vc
theorem bulk_pos {H : Type} : ∀ d : DataW H, 1 ≤ Rows.uptoBulk d
  | .lit l => by cases l <;> simp [Rows.uptoBulk]
  | .nil => by simp [Rows.uptoBulk]
  | .ptr d => by simp [Rows.uptoBulk]
  | .slice a b => by simp [Rows.uptoBulk]
  | .agg a => by simp [Rows.uptoBulk]
  | .iface _ d => by simp [Rows.uptoBulk]
  | .map a => by simp [Rows.uptoBulk]
  | .held _ => by simp [Rows.uptoBulk]
theorem bulk_get {H : Type} : ∀ {l : List (DataW H)} {i : Nat} {d : DataW H}, l[i]? = some d → Rows.uptoBulk d ≤ Rows.uptoBulkAll l
  | a :: l, 0, d, h => by
    simp at h; subst h
    show _ ≤ Rows.uptoBulk a + Rows.uptoBulkAll l; omega
  | a :: l, i + 1, d, h => by
    have := bulk_get (l := l) (i := i) (by simpa using h)
    show _ ≤ Rows.uptoBulk a + Rows.uptoBulkAll l; omega
theorem bulk_len {H : Type} {b : Nat} : ∀ {l : List (DataW H)}, (∀ d ∈ l, b ≤ Rows.uptoBulk d) → l.length * b ≤ Rows.uptoBulkAll l
  | [], _ => by simp [Rows.uptoBulkAll]
  | a :: l, h => by
    have h1 := h a (by simp)
    have h2 := bulk_len (l := l) fun d hd => h d (List.mem_cons_of_mem _ hd)
    show _ ≤ Rows.uptoBulk a + Rows.uptoBulkAll l
    rw [List.length_cons, Nat.add_mul]; omega
theorem bulk_list {H : Type} {α : Type} {rel : DataW H → α → Prop} {d : DataW H} {ys : List α} (h : relSl rel d ys) : ys.length ≤ Rows.uptoBulk d := by
  rcases h with ⟨rfl, rfl⟩ | ⟨elems, sp, rfl, hl, _⟩
  · simp
  · have := bulk_len (b := 1) (l := elems) fun d _ => bulk_pos d
    show _ ≤ Rows.uptoBulkAll elems + Rows.uptoBulkAll sp + 1
    omega
theorem bulk_script {H : Type} {d : DataW H} {ys : List (Int × Int × Int × Int × List Int × List Bool)}
    (h : relSl (relSt fun ds y => ∃ d1 t1, ds = d1 :: t1 ∧ True ∧ ∃ d2 t2, t1 = d2 :: t2 ∧ True ∧ ∃ d3 t3, t2 = d3 :: t3 ∧ True ∧ ∃ d4 t4, t3 = d4 :: t4 ∧ True ∧ ∃ d5 t5, t4 = d5 :: t5 ∧ relSl (fun (_ : DataW H) (_ : Int) => True) d5 y.2.2.2.2.1 ∧ ∃ d6, t5 = [d6] ∧ relSl (fun (_ : DataW H) (_ : Bool) => True) d6 y.2.2.2.2.2) d ys)
    (hb : Rows.uptoBulk d ≤ 1048576) : ys.length ≤ 149796 ∧ ∀ y ∈ ys, y.2.2.2.2.1.length ≤ 1048576 := by
  rcases h with ⟨rfl, rfl⟩ | ⟨elems, sp, rfl, hl, hel⟩
  · simp
  · have hs : Rows.uptoBulkAll elems + Rows.uptoBulkAll sp + 1 ≤ 1048576 := hb
    have key : ∀ (i : Nat) e y, elems[i]? = some e → ys[i]? = some y → 7 ≤ Rows.uptoBulk e ∧ y.2.2.2.2.1.length ≤ Rows.uptoBulk e := by
      intro i e y he hy
      obtain ⟨ds, rfl, d1, t1, rfl, _, d2, t2, rfl, _, d3, t3, rfl, _, d4, t4, rfl, _, d5, t5, rfl, h5, d6, rfl, _⟩ := hel i e y he hy
      have p1 := bulk_pos d1; have p2 := bulk_pos d2; have p3 := bulk_pos d3; have p4 := bulk_pos d4; have p5 := bulk_pos d5; have p6 := bulk_pos d6
      have q := bulk_list h5
      have e : Rows.uptoBulk (.agg [d1, d2, d3, d4, d5, d6]) = Rows.uptoBulk d1 + (Rows.uptoBulk d2 + (Rows.uptoBulk d3 + (Rows.uptoBulk d4 + (Rows.uptoBulk d5 + (Rows.uptoBulk d6 + 0))))) + 1 := rfl
      rw [e]; omega
    constructor
    · have := bulk_len (b := 7) (l := elems) fun d hd => by
        obtain ⟨i, hi, rfl⟩ := List.getElem_of_mem hd
        exact (key i _ _ (List.getElem?_eq_getElem hi) (List.getElem?_eq_getElem (by omega))).1
      omega
    · intro y hy
      obtain ⟨i, hi, rfl⟩ := List.getElem_of_mem hy
      have hie : i < elems.length := by omega
      have a := (key i _ _ (List.getElem?_eq_getElem hie) (List.getElem?_eq_getElem hi)).2
      have b := bulk_get (List.getElem?_eq_getElem hie)
      omega
end Go.Proofs.Ytceipmldngeagaa
