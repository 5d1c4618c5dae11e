/- The plain part of SatProofs, SatShown: what the functions of clauses compute. No program in sight. -/
import Derived.Test.YtdflojjpjklbfaaDoorConds
set_option linter.unusedVariables false
namespace Go.Vc
theorem i64_succ {α : Type} {xs : List α} {i : Int} (hl : Len xs) (h0 : 0 ≤ i) (h1 : i < xs.length) : I64 (i + 1) := by unfold Len at hl; exact ⟨by omega, by omega⟩
theorem drop_ix {α : Type} [Inhabited α] {xs : List α} {i : Int} (h0 : 0 ≤ i) (h1 : i < xs.length) : xs.drop i.toNat = ix xs i :: xs.drop (i + 1).toNat := by
  have h : i.toNat < xs.length := by omega
  rw [List.drop_eq_getElem_cons h, show (i + 1).toNat = i.toNat + 1 by omega]
  congr 1
  simp [ix, h]
theorem drop_end {α : Type} {xs : List α} {i : Int} (h0 : 0 ≤ i) (h1 : ¬ i < xs.length) : xs.drop i.toNat = [] := List.drop_eq_nil_of_le (by omega)
theorem take_ix {α : Type} [Inhabited α] {xs : List α} {i : Int} (h0 : 0 ≤ i) (h1 : i < xs.length) : xs.take (i + 1).toNat = xs.take i.toNat ++ [ix xs i] := by
  have h : i.toNat < xs.length := by omega
  rw [show (i + 1).toNat = i.toNat + 1 by omega, List.take_succ_eq_append_getElem h]
  congr 2
  simp [ix, h]
theorem ix_mem {α : Type} [Inhabited α] {xs : List α} {i : Int} (h0 : 0 ≤ i) (h1 : i < xs.length) : ix xs i ∈ xs := by
  have h : i.toNat < xs.length := by omega
  simp [ix, h]
/-! ### Literals -/
def isLit (n l : Int) : Bool := decide (l ≠ 0 ∧ -n ≤ l ∧ l ≤ n)
def litsOk (n : Int) (c : List Int) : Bool := c.all (isLit n)
/-- n is one that may be. -/
def okN (n : Int) : Prop := 0 ≤ n ∧ n ≤ 16777216
theorem isLit_iff {n l : Int} : isLit n l = true ↔ l ≠ 0 ∧ -n ≤ l ∧ l ≤ n := by simp [isLit]
def absv (l : Int) : Int := if l < 0 then wneg l else l
theorem size_ok {l : Int} {Q : Int → Prop} (h : Q (absv l)) : V_size l Q := ⟨fun hl => by rw [absv, if_pos hl] at h; exact h, fun hl => by rw [absv, if_neg hl] at h; exact h⟩
theorem absv_eq {l : Int} (h : -16777216 ≤ l) : absv l = max l (-l) := by
  unfold absv; split
  · rw [wneg_eq (by unfold I64; omega)]; omega
  · omega
theorem Literal_ok {n l : Int} {Q : Bool → Prop} (h : Q (decide (l ≠ 0 ∧ wneg n ≤ l ∧ l ≤ n))) : V_Literal n l Q := by
  refine ⟨fun b => b = decide (l ≠ 0 ∧ wneg n ≤ l ∧ l ≤ n), fun b hb => by subst hb; exact h, fun h0 => ⟨fun h1 => ?_, fun h1 => ?_⟩, fun h0 => ?_⟩
  · simp [h0, h1]
  · simp [h1]
  · simp only [ne_eq, Decidable.not_not] at h0; simp [h0]
def litsW (n : Int) (c : List Int) : Bool := c.all fun l => decide (l ≠ 0 ∧ wneg n ≤ l ∧ l ≤ n)
theorem litsW_cons (n l : Int) (c : List Int) : litsW n (l :: c) = (decide (l ≠ 0 ∧ wneg n ≤ l ∧ l ≤ n) && litsW n c) := rfl
theorem litsW_eq {n : Int} (hn : okN n) (c : List Int) : litsW n c = litsOk n c := by
  unfold litsW litsOk isLit okN at *
  rw [wneg_eq (by unfold I64; omega)]
theorem refLiterals_ok {n : Int} {c : List Int} {Q : Bool → Prop} (h : Q (litsW n c)) : V_refLiterals n c Q := by
  refine ⟨fun i => 0 ≤ i ∧ i ≤ c.length ∧ litsW n c = litsW n (c.drop i.toNat), fun i => (c.length - i).toNat, ⟨by omega, by omega, by simp⟩, ?_⟩
  rintro i ⟨h0, h1, h2⟩ hl
  refine ⟨fun hlt => ⟨⟨h0, hlt⟩, fun _ => ?_⟩, fun hge => ?_⟩
  · rw [drop_ix h0 hlt, litsW_cons] at h2
    refine Literal_ok ⟨fun hb => ?_, fun hb => ⟨i64_succ hl h0 hlt, ⟨by omega, by omega, ?_⟩, by dsimp only; omega⟩⟩
    · simp only [Bool.not_eq_true'] at hb
      rw [hb, Bool.false_and] at h2; rw [h2] at h; exact h
    · simp only [Bool.not_eq_false'] at hb
      rw [hb, Bool.true_and] at h2; exact h2
  · rw [drop_end h0 hge] at h2; rw [h2] at h; exact h
/-- What is wrong with n and the clauses. -/
def faultOf (n : Int) (cs : List (List Int)) : Int :=
  if n < 0 ∨ 16777216 < n then 5 else if 33554432 < (cs.length : Int) then 6 else if cs.all (litsOk n) then 0 else 5
theorem Fault_ok {n : Int} {cs : List (List Int)} {Q : Int → Prop} (h : Q (faultOf n cs)) : V_Fault n cs Q := by
  refine ⟨fun hb => by rw [faultOf, if_pos hb] at h; exact h, fun hb hl => ?_⟩
  rw [faultOf, if_neg hb] at h
  refine ⟨fun hc => by rw [if_pos hc] at h; exact h, fun hc => ?_⟩
  rw [if_neg hc] at h
  have hn : okN n := ⟨by omega, by omega⟩
  refine ⟨fun i => 0 ≤ i ∧ i ≤ cs.length ∧ cs.all (litsOk n) = (cs.drop i.toNat).all (litsOk n), fun i => (cs.length - i).toNat, ⟨by omega, by omega, by simp⟩, ?_⟩
  rintro i ⟨h0, h1, h2⟩ _
  refine ⟨fun hlt => ⟨⟨h0, hlt⟩, ?_⟩, fun hge => ?_⟩
  · rw [drop_ix h0 hlt, List.all_cons] at h2
    refine refLiterals_ok ?_
    rw [litsW_eq hn]
    refine ⟨fun hb => ?_, fun hb => ⟨i64_succ hl h0 hlt, ⟨by omega, by omega, ?_⟩, by dsimp only; omega⟩⟩
    · simp only [Bool.not_eq_true'] at hb
      rw [hb, Bool.false_and] at h2; rw [h2] at h; exact h
    · simp only [Bool.not_eq_false'] at hb
      rw [hb, Bool.true_and] at h2; exact h2
  · rw [drop_end h0 hge] at h2; rw [h2] at h; exact h
theorem valid1_ok {l n : Int} {Q : Bool → Prop} (hn : okN n) (h : Q (!isLit n l)) : V_valid1 l n Q := by
  have e : (!isLit n l) = decide (l = 0 ∨ n < l ∨ l < -n) := by
    unfold isLit
    rw [← decide_not]
    congr 1
    refine propext ⟨fun h => ?_, fun h => ?_⟩ <;> omega
  rw [e] at h
  unfold okN at hn
  refine ⟨fun b => b = decide (l = 0 ∨ n < l ∨ l < -n), fun b hb => by subst hb; exact h, fun h0 => by simp [h0], fun h0 => ⟨fun h1 => by simp [h1], fun h1 => ⟨by unfold I64; omega, by simp [h0, h1]⟩⟩⟩
theorem IndexFuncI_ok {s : List Int} {G : Int → (Bool → Prop) → Prop} {Q : Int → Prop} (p : Int → Bool) (hG : ∀ x ∈ s, ∀ K : Bool → Prop, K (p x) → G x K)
    (h1 : ∀ i : Int, 0 ≤ i → i < s.length → p (ix s i) = true → (∀ x ∈ s.take i.toNat, p x = false) → Q i) (h2 : (∀ x ∈ s, p x = false) → Q (-1)) : V_IndexFuncI s G Q := by
  intro hl
  refine ⟨fun i => 0 ≤ i ∧ i ≤ s.length ∧ ∀ x ∈ s.take i.toNat, p x = false, fun i => (s.length - i).toNat, ⟨by omega, by omega, by simp⟩, ?_⟩
  rintro i ⟨g0, g1, g2⟩
  refine ⟨fun hlt => ⟨⟨g0, hlt⟩, fun _ => hG _ (ix_mem g0 hlt) _ ⟨fun hb => h1 i g0 hlt hb g2, fun hb => ⟨i64_succ hl g0 hlt, ⟨by omega, by omega, ?_⟩, by dsimp only; omega⟩⟩⟩, fun hge => h2 ?_⟩
  · rw [take_ix g0 hlt]
    intro x hx
    rcases List.mem_append.1 hx with hx | hx
    · exact g2 x hx
    · rw [List.mem_singleton.1 hx]; exact hb
  · rwa [List.take_of_length_le (by omega)] at g2
theorem IndexFuncL_ok {s : List (List Int)} {G : List Int → (Bool → Prop) → Prop} {Q : Int → Prop} (p : List Int → Bool) (hG : ∀ x ∈ s, ∀ K : Bool → Prop, K (p x) → G x K)
    (h1 : ∀ i : Int, 0 ≤ i → i < s.length → p (ix s i) = true → (∀ x ∈ s.take i.toNat, p x = false) → Q i) (h2 : (∀ x ∈ s, p x = false) → Q (-1)) : V_IndexFuncL s G Q := by
  intro hl
  refine ⟨fun i => 0 ≤ i ∧ i ≤ s.length ∧ ∀ x ∈ s.take i.toNat, p x = false, fun i => (s.length - i).toNat, ⟨by omega, by omega, by simp⟩, ?_⟩
  rintro i ⟨g0, g1, g2⟩
  refine ⟨fun hlt => ⟨⟨g0, hlt⟩, hG _ (ix_mem g0 hlt) _ ⟨fun hb => h1 i g0 hlt hb g2, fun hb => ⟨i64_succ hl g0 hlt, ⟨by omega, by omega, ?_⟩, by dsimp only; omega⟩⟩⟩, fun hge => h2 ?_⟩
  · rw [take_ix g0 hlt]
    intro x hx
    rcases List.mem_append.1 hx with hx | hx
    · exact g2 x hx
    · rw [List.mem_singleton.1 hx]; exact hb
  · rwa [List.take_of_length_le (by omega)] at g2
theorem ContainsFuncI_ok {s : List Int} {G : Int → (Bool → Prop) → Prop} {Q : Bool → Prop} (p : Int → Bool) (hG : ∀ x ∈ s, ∀ K : Bool → Prop, K (p x) → G x K) (h : Q (s.any p)) : V_ContainsFuncI s G Q := by
  refine IndexFuncI_ok p hG (fun i h0 h1 hp _ => ?_) (fun hall => ?_)
  · have : s.any p = true := List.any_eq_true.2 ⟨_, ix_mem h0 h1, hp⟩
    rw [this] at h; simpa [h0] using h
  · have : s.any p = false := List.any_eq_false.2 fun x hx => by simp [hall x hx]
    rw [this] at h; simpa using h
theorem ContainsFuncL_ok {s : List (List Int)} {G : List Int → (Bool → Prop) → Prop} {Q : Bool → Prop} (p : List Int → Bool) (hG : ∀ x ∈ s, ∀ K : Bool → Prop, K (p x) → G x K) (h : Q (s.any p)) : V_ContainsFuncL s G Q := by
  refine IndexFuncL_ok p hG (fun i h0 h1 hp _ => ?_) (fun hall => ?_)
  · have : s.any p = true := List.any_eq_true.2 ⟨_, ix_mem h0 h1, hp⟩
    rw [this] at h; simpa [h0] using h
  · have : s.any p = false := List.any_eq_false.2 fun x hx => by simp [hall x hx]
    rw [this] at h; simpa using h
theorem not_any_not {α : Type} (p : α → Bool) (l : List α) : (!l.any fun x => !p x) = l.all p := by induction l with
  | nil => rfl
  | cons a l ih => simp only [List.any_cons, List.all_cons, Bool.not_or, Bool.not_not, ih]
theorem valid_ok {n : Int} {c : List Int} {Q : Bool → Prop} (hn : okN n) (h : Q (litsOk n c)) : V_valid n c Q := by
  refine ContainsFuncI_ok (fun l => !isLit n l) (fun x _ K hK => valid1_ok hn hK) ?_
  rw [not_any_not]; exact h
theorem checked1_ok {n : Int} {c : List Int} {Q : Bool → Prop} (hn : okN n) (h : Q (!litsOk n c)) : V_checked1 c n Q := valid_ok hn h
/-- What the program says is wrong. -/
def wrongOf (n : Int) (cs : List (List Int)) (more : List Int) : Option Int :=
  if n < 0 ∨ 16777216 < n then some 5 else if 33554432 < (cs.length : Int) then some 6 else if cs.all (litsOk n) && litsOk n more then none else some 5
theorem checked_ok {n : Int} {cs : List (List Int)} {more : List Int} {Q : Option Int → Prop} (h : Q (wrongOf n cs more)) : V_checked n cs more Q := by
  refine ⟨fun b => b = decide (n < 0 ∨ 16777216 < n), ?_, fun h0 => by simp [h0], fun h0 => by simp [h0]⟩
  rintro b rfl
  refine ⟨fun hb => ?_, fun hb hl => ?_⟩
  · have hb := of_decide_eq_true hb
    rw [wrongOf, if_pos hb] at h; exact h
  · have hb := of_decide_eq_false hb
    have hn : okN n := ⟨by omega, by omega⟩
    rw [wrongOf, if_neg hb] at h
    refine ⟨fun hc => by rw [if_pos hc] at h; exact h, fun hc => ?_⟩
    rw [if_neg hc] at h
    refine ⟨fun b => b = !(cs.all (litsOk n) && litsOk n more), ?_, ?_⟩
    · rintro b rfl
      refine ⟨fun hb => ?_, fun hb => ?_⟩
      · simp only [Bool.not_eq_true'] at hb
        rw [hb] at h; exact h
      · simp only [Bool.not_eq_false'] at hb
        rw [hb] at h; exact h
    · refine ContainsFuncL_ok (fun c => !litsOk n c) (fun x _ K hK => checked1_ok hn hK) ?_
      refine ⟨fun hb => ?_, fun hb => ?_⟩
      · have := not_any_not (litsOk n) cs
        rw [hb] at this; rw [← this]; rfl
      · refine valid_ok hn ?_
        have := not_any_not (litsOk n) cs
        rw [hb] at this; rw [← this]; simp
end Go.Vc
