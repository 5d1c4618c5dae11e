/- How arguments that read as data lie in the view of the whole heap. -/
import Derived.Test.YtmdoicffgeihcaaGreatDoorBox
import Derived.ProofKit
import Derived.SizedLaws
set_option linter.unusedVariables false
namespace Go.Vc
open Go Go.ChangeShapes
/-- The whole heap as a view. -/
abbrev hv (W : World) : View := fun k => W.heap[k]?
section
variable {D : Type} {enc : TypeId × Value → D} {P : Program} {W : World} {base : Nat} {spare : Nat → Bool} {held : Bool}

/-- What reads at a type lies as a codec says. -/
def Reads {α : Type} (enc : TypeId × Value → D) (P : Program) (W : World) (base : Nat) (spare : Nat → Bool) (held : Bool) (c : Codec α) (t : TypeId) (rel : DataW D → α → Prop) : Prop :=
  P.cellsOf t = c.size ∧ ∀ n cs x, DataW.trod enc P W base spare held n t cs = some x → ∃ y, c.rep (hv W) cs y ∧ rel x.1 y

theorem reads_int {t : TypeId} {k : IntKind} (ht : P.underlying t = some (.int k)) (hs : P.cellsOf t = 1) (hk : ∀ n, (Lit.int k n).wf = true → k.has n) : Reads enc P W base spare held (cInt k) t (fun _ _ => True) :=
  ⟨hs, fun n cs x h => by obtain ⟨m, rfl, rfl, hw⟩ := DataW.trod_int ht h; exact ⟨m, cInt_mk (hk m hw), trivial⟩⟩
theorem reads_bool {t : TypeId} (ht : P.underlying t = some .bool) (hs : P.cellsOf t = 1) : Reads enc P W base spare held cBool t (fun _ _ => True) :=
  ⟨hs, fun n cs x h => by obtain ⟨b, rfl, rfl⟩ := DataW.trod_bool ht h; exact ⟨b, cBool_mk, trivial⟩⟩
theorem wf_i64 {n : Int} (h : (Lit.int .i64 n).wf = true) : IntKind.i64.has n := by
  exact I64.has (by unfold I64; simp only [Lit.wf, IntKind.min, IntKind.max, IntKind.bits, IntKind.signed] at h; simp at h; omega)

/-- The datum of a slice and the list. -/
def relSl {α : Type} (rel : DataW D → α → Prop) : DataW D → List α → Prop := fun d ys =>
  (d = .nil ∧ ys = []) ∨ ∃ elems sp, d = .slice elems sp ∧ elems.length = ys.length ∧ ∀ (i : Nat) (e : DataW D) (y : α), elems[i]? = some e → ys[i]? = some y → rel e y

theorem reads_slice {α : Type} {c : Codec α} {t e : TypeId} {rel : DataW D → α → Prop} (hr : Reads enc P W base spare held c e rel) (hpos : 0 < c.size) (ht : P.underlying t = some (.slice e)) (hs : P.cellsOf t = 1) :
    Reads enc P W base spare held (cSl c) t (relSl rel) := by
  refine ⟨hs, fun n cs x h => ?_⟩
  rcases DataW.trod_slice ht h with ⟨rfl, rfl⟩ | ⟨a, len, cap, elems, rest, m, _, rfl, rfl, hb, hl, hm, hlen, hel, hsp, hns⟩
  · exact ⟨[], cSl_mk IsSl.nil, .inl ⟨rfl, rfl⟩⟩
  · by_cases h0 : len = 0
    · subst h0
      have hel0 : elems = [] := List.length_eq_zero_iff.1 hlen
      subst hel0
      exact ⟨[], ⟨_, rfl, ⟨_, cap, rfl, Nat.zero_le _, hm, fun h => (by cases h), .inl rfl⟩⟩, .inr ⟨[], _, rfl, rfl, fun i e y h => by simp at h⟩⟩
    · -- the address is a plain one
      obtain ⟨b, off, spot⟩ := a
      have hcell : ∀ i, i < len → ∃ ms y ex, elems[i]? = some ex ∧ ms.length = c.size ∧ (∀ j, j < c.size → W.cell? ((⟨b, off, spot⟩ : Addr).add (i * c.size) |>.add j) = ms[j]?) ∧ c.rep (hv W) ms y ∧ rel ex.1 y := by
        intro i hi
        have h1 := hel i hi
        have h2 : i < elems.length := by omega
        rw [List.getElem?_eq_getElem h2, Option.bind_eq_some_iff] at h1
        obtain ⟨ms, h3, h4⟩ := h1
        obtain ⟨_, h5, h6⟩ := World.cells?_some h3
        obtain ⟨y, h7, h8⟩ := hr.2 _ _ _ h4
        rw [hr.1] at h5 h6
        exact ⟨ms, y, _, List.getElem?_eq_getElem h2, h5, h6, h7, h8⟩
      have hspot : spot = none := by
        obtain ⟨ms, y, ex, _, h5, h6, _⟩ := hcell 0 (by omega)
        have := h6 0 hpos
        rw [List.getElem?_eq_getElem (by omega)] at this
        have := World.cell?_spot this
        simpa [Addr.add] using this
      subst hspot
      have hblock : ∃ arr T fz, W.heap[b]? = some (.cells arr T fz) := by
        obtain ⟨ms, y, ex, _, h5, h6, _⟩ := hcell 0 (by omega)
        have := h6 0 hpos
        rw [List.getElem?_eq_getElem (by omega)] at this
        simp only [Nat.zero_mul, Addr.add, if_true] at this
        unfold World.cell? at this
        split at this
        · rename_i arr T fz hh; exact ⟨arr, T, fz, hh⟩
        · cases this
      obtain ⟨arr, T, fz, hblk⟩ := hblock
      have key : ∀ k, k ≤ len → ∃ ms ys, ms.length = k * c.size ∧ (∀ j, j < k * c.size → arr[off + j]? = ms[j]?) ∧ c.reps (hv W) ms ys ∧ ys.length = k ∧ ∀ i e y, i < k → (elems.map (·.1))[i]? = some e → ys[i]? = some y → rel e y := by
        intro k
        induction k with
        | zero => intro _; exact ⟨[], [], by simp, fun j hj => by omega, rfl, rfl, fun i e y hi => by omega⟩
        | succ k ih =>
          intro hk
          obtain ⟨ms, ys, h1, h2, h3, h4, h5⟩ := ih (by omega)
          obtain ⟨m1, y1, ex, g0, g1, g2, g3, g4⟩ := hcell k (by omega)
          refine ⟨ms ++ m1, ys ++ [y1], by rw [List.length_append, h1, g1, Nat.succ_mul], fun j hj => ?_, Codec.reps_append h3 (Codec.reps_single.2 g3), by simp [h4], fun i e y hi he hy => ?_⟩
          · by_cases hjk : j < k * c.size
            · rw [List.getElem?_append_left (by omega)]; exact h2 j hjk
            · rw [List.getElem?_append_right (by omega), h1]
              rw [Nat.succ_mul] at hj
              have := g2 (j - k * c.size) (by omega)
              rw [Addr.add_lit, Addr.add_lit, cell_of_row W b _ arr T fz hblk] at this
              rw [← this]; congr 1; omega
          · by_cases hik : i = k
            · subst hik
              rw [List.getElem?_append_right (by omega), h4] at hy
              simp at hy
              subst hy
              rw [List.getElem?_map, g0] at he
              simp at he
              subst he
              exact g4
            · rw [List.getElem?_append_left (by omega)] at hy
              exact h5 i e y (by omega) he hy
      obtain ⟨ms, ys, h1, h2, h3, h4, h5⟩ := key len (Nat.le_refl _)
      refine ⟨ys, ⟨_, rfl, some ⟨b, off, none⟩, cap, by rw [h4], by omega, hm, fun h => (by cases h), .inr ⟨b, off, arr, T, fz, arr.toList.take off, ms, arr.toList.drop (off + ms.length), rfl, hblk, ?_, ?_, h3⟩⟩, .inr ⟨elems.map (·.1), _, rfl, by simp [hlen, h4], fun i e y he hy => h5 i e y (by have := (List.getElem?_eq_some_iff.1 hy).1; omega) he hy⟩⟩
      · have hms : ms = (arr.toList.drop off).take ms.length := by
          apply List.ext_getElem?
          intro j
          by_cases hj : j < ms.length
          · rw [List.getElem?_take, if_pos hj, List.getElem?_drop, ← h2 j (by omega), Array.getElem?_toList]
          · rw [List.getElem?_eq_none (by omega), List.getElem?_eq_none (by rw [List.length_take]; omega)]
        conv => lhs; rw [← List.take_append_drop off arr.toList, ← List.take_append_drop ms.length (arr.toList.drop off), ← hms, List.drop_drop]
      · rw [List.length_take, Array.length_toList]
        have h6 : 0 < ms.length := by rw [h1]; exact Nat.mul_pos (by omega) hpos
        have := h2 0 (by omega)
        rw [List.getElem?_eq_getElem h6, Nat.add_zero] at this
        have := (Array.getElem?_eq_some_iff.1 this).1
        omega
/-- The fields of a struct from a place on. -/
def ReadsF {σ : Type} (enc : TypeId × Value → D) (P : Program) (W : World) (base : Nat) (spare : Nat → Bool) (held : Bool) (fs : List Field) (off : Nat) (c : Codec σ) (rel : List (DataW D) → σ → Prop) : Prop :=
  ∀ (n : Nat) (cs : List Value) (xs : List (DataW D × List MemPlace)), xs.length = fs.length → (∀ (i : Nat) (f : Field), fs[i]? = some f → DataW.trod enc P W base spare held n f.type ((cs.drop f.offset).take (P.cellsOf f.type)) = xs[i]?) →
    ∃ y, c.rep (hv W) ((cs.drop off).take c.size) y ∧ rel (xs.map (·.1)) y
theorem readsF_one {α : Type} {c : Codec α} {f : Field} {off : Nat} {rel : DataW D → α → Prop} (hr : Reads enc P W base spare held c f.type rel) (ho : f.offset = off) :
    ReadsF enc P W base spare held [f] off c (fun ds y => ∃ d, ds = [d] ∧ rel d y) := fun n cs xs hl h => by
  match xs, hl with
  | [x], _ =>
    have h0 := h 0 f rfl
    simp only [List.getElem?_cons_zero] at h0
    obtain ⟨y, h1, h2⟩ := hr.2 _ _ _ h0
    rw [hr.1, ho] at h1
    exact ⟨y, h1, _, rfl, h2⟩
theorem readsF_cons {α β : Type} {c : Codec α} {d : Codec β} {f : Field} {fs : List Field} {off : Nat} {rel : DataW D → α → Prop} {rel' : List (DataW D) → β → Prop} (hr : Reads enc P W base spare held c f.type rel) (ho : f.offset = off)
    (hs : ReadsF enc P W base spare held fs (off + c.size) d rel') : ReadsF enc P W base spare held (f :: fs) off (cPair c d) (fun ds y => ∃ d ds', ds = d :: ds' ∧ rel d y.1 ∧ rel' ds' y.2) := fun n cs xs hl h => by
  match xs, hl with
  | x :: xs, hl =>
    have h0 := h 0 f rfl
    simp only [List.getElem?_cons_zero] at h0
    obtain ⟨y, h1, h2⟩ := hr.2 _ _ _ h0
    rw [hr.1, ho] at h1
    obtain ⟨z, h3, h4⟩ := hs n cs xs (by simpa using hl) (fun i g hg => by simpa using h (i + 1) g (by simpa using hg))
    refine ⟨(y, z), ⟨_, _, ?_, h1, h3⟩, _, _, rfl, h2, h4⟩
    show List.take (c.size + d.size) _ = _
    rw [List.take_add, List.drop_drop]
/-- The datum of a struct. -/
def relSt {σ : Type} (rel : List (DataW D) → σ → Prop) : DataW D → σ → Prop := fun d y => ∃ ds, d = .agg ds ∧ rel ds y
theorem reads_struct {σ : Type} {c : Codec σ} {t : TypeId} {fs : Array Field} {rel : List (DataW D) → σ → Prop} (ht : P.underlying t = some (.struct fs)) (hf : ReadsF enc P W base spare held fs.toList 0 c rel) (hs : P.cellsOf t = c.size) :
    Reads enc P W base spare held c t (relSt rel) := ⟨hs, fun n cs x h => by
  obtain ⟨xs, m, _, rfl, hl, hlen, hf'⟩ := DataW.trod_struct ht h
  obtain ⟨y, h1, h2⟩ := hf m cs xs (by simpa using hlen) (fun i f hf0 => hf' i f (by simpa using hf0))
  rw [List.drop_zero, List.take_of_length_le (by omega)] at h1
  exact ⟨y, h1, _, rfl, h2⟩⟩
/-! ### How long what came in may be -/
/-- A datum of a type whose slices are no longer than the reach: what then holds of the list. -/
def SizedAs {α : Type} (P : Program) (t : TypeId) (rel : DataW D → α → Prop) (φ : α → Prop) : Prop := ∀ d y, rel d y → (∀ n ∈ d.weights P t, n ≤ reachBytes) → φ y
theorem sized_any {α : Type} {t : TypeId} {rel : DataW D → α → Prop} : SizedAs P t rel (fun _ => True) := fun _ _ _ _ => trivial
theorem sized_triv {α : Type} {t : TypeId} : SizedAs P t (fun (_ : DataW D) (_ : α) => True) (fun _ => True) := fun _ _ _ _ => trivial
theorem sized_sl {α : Type} {t e : TypeId} {b : Nat} {rel : DataW D → α → Prop} {φ : α → Prop} (he : SizedAs P e rel φ) (hu : P.underlying t = some (.slice e)) (hb : P.bytesOf e = b) :
    SizedAs P t (relSl rel) (fun ys => ys.length * b ≤ reachBytes ∧ ∀ y ∈ ys, φ y) := fun d y hr hw => by
  subst hb
  rcases hr with ⟨rfl, rfl⟩ | ⟨elems, sp, rfl, hl, hel⟩
  · exact ⟨by simp, by simp⟩
  · have h0 := hw ((elems.length + sp.length) * P.bytesOf e) (by simp [DataW.weights, hu])
    refine ⟨Nat.le_trans (by rw [← hl]; exact Nat.mul_le_mul_right _ (by omega)) h0, fun z hz => ?_⟩
    obtain ⟨i, hi, rfl⟩ := List.getElem_of_mem hz
    have hie : i < elems.length := by omega
    refine he _ _ (hel i _ _ (List.getElem?_eq_getElem hie) (List.getElem?_eq_getElem hi)) fun n hn => hw n ?_
    simp only [DataW.weights, hu, List.mem_cons, List.mem_append]
    have key : ∀ (l : List (DataW D)) (i : Nat) (h : i < l.length), n ∈ l[i].weights P e → n ∈ DataW.weightsAll P e l := by
      intro l
      induction l with
      | nil => intro i h; simp at h
      | cons a l ih =>
        intro i h hn
        cases i with
        | zero => simp only [DataW.weightsAll, List.mem_append]; exact .inl (by simpa using hn)
        | succ i => simp only [DataW.weightsAll, List.mem_append]; exact .inr (ih i (by simpa using h) (by simpa using hn))
    have := key elems i hie hn
    simp [this]
def SizedF {σ : Type} (P : Program) (ts : List TypeId) (rel : List (DataW D) → σ → Prop) (φ : σ → Prop) : Prop := ∀ ds y, rel ds y → (∀ n ∈ DataW.weightsEach P ts ds, n ≤ reachBytes) → φ y
theorem sizedF_one {α : Type} {t : TypeId} {rel : DataW D → α → Prop} {φ : α → Prop} (h : SizedAs P t rel φ) : SizedF P [t] (fun ds y => ∃ d, ds = [d] ∧ rel d y) φ := fun ds y ⟨d, e, hr⟩ hw => by
  subst e
  exact h d y hr fun n hn => hw n (by simp [DataW.weightsEach, hn])
theorem sizedF_cons {α β : Type} {t : TypeId} {ts : List TypeId} {rel : DataW D → α → Prop} {rel' : List (DataW D) → β → Prop} {φ : α → Prop} {ψ : β → Prop} (h : SizedAs P t rel φ) (k : SizedF P ts rel' ψ) :
    SizedF P (t :: ts) (fun ds (y : α × β) => ∃ d ds', ds = d :: ds' ∧ rel d y.1 ∧ rel' ds' y.2) (fun y => φ y.1 ∧ ψ y.2) := fun ds y ⟨d, ds', e, h1, h2⟩ hw => by
  subst e
  exact ⟨h d _ h1 fun n hn => hw n (by simp [DataW.weightsEach, hn]), k ds' _ h2 fun n hn => hw n (by simp [DataW.weightsEach, hn])⟩
theorem sized_struct {σ : Type} {t : TypeId} {fs : Array Field} {ts : List TypeId} {rel : List (DataW D) → σ → Prop} {φ : σ → Prop} (hu : P.underlying t = some (.struct fs)) (hts : fs.toList.map (·.type) = ts) (h : SizedF P ts rel φ) : SizedAs P t (relSt rel) φ :=
  fun d y ⟨ds, e, hr⟩ hw => by
  subst e; subst hts
  exact h ds y hr fun n hn => hw n (by simp [DataW.weights, hu, hn])
theorem weights_le {ts : List TypeId} {ds : List (DataW D)} (h : (DataW.weightsEach P ts ds).all (· ≤ reachBytes) = true) {j : Nat} {t : TypeId} {d : DataW D} (ht : ts[j]? = some t) (hd : ds[j]? = some d) : ∀ n ∈ d.weights P t, n ≤ reachBytes := fun n hn => by
  have := List.all_eq_true.1 h n (DataW.weights_mem_each ht hd n hn)
  simpa using this
/-- An argument. -/
theorem arg_of_reads {α : Type} {c : Codec α} {t : TypeId} {rel : DataW D → α → Prop} (hr : Reads enc P W base spare held c t rel) {v : Value} {d : DataW D} {ps : List MemPlace} (h : DataW.Trod enc P W base spare held t v d ps) :
    ∃ y, c.rep (hv W) v.cells.toList y ∧ rel d y := by
  obtain ⟨n, h⟩ := h
  exact hr.2 _ _ _ h
theorem sl_of_arg {α : Type} {c : Codec α} {a : Option Addr} {len cap : Nat} {ys : List α} (h : (cSl c).rep (hv W) (Value.cells (.slice a len cap)).toList ys) : IsSl (hv W) c (.slice a len cap) ys := cSl_rep h
theorem sl_cap {α : Type} {c : Codec α} {H : View} {a : Option Addr} {len cap : Nat} {ys : List α} (h : IsSl H c (.slice a len cap) ys) : ys.length = len ∧ len ≤ cap := by
  obtain ⟨ad, cap', h1, h2, _⟩ := h
  cases h1; exact ⟨rfl, h2⟩
end
end Go.Vc
