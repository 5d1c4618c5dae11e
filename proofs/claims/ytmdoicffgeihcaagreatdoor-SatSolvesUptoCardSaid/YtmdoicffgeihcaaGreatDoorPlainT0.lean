/- What clauses, what follows of them and lines of a proof are, in plain words (the document's side; what is looked at first). No condition. -/
import Derived.Test.YtmdoicffgeihcaaGreatDoorConds
import Derived.SizedLaws
set_option linter.unusedVariables false
namespace Go.Vc
theorem i64_succ {α : Type} {xs : List α} {i : Int} (hl : Len xs) (h0 : 0 ≤ i) (h1 : i < xs.length) : I64 (i + 1) := by unfold Len at hl; exact ⟨by omega, by omega⟩
theorem drop_ix {α : Type} [Inhabited α] {xs : List α} {i : Int} (h0 : 0 ≤ i) (h1 : i < xs.length) : xs.drop i.toNat = ix xs i :: xs.drop (i + 1).toNat := by
  have h : i.toNat < xs.length := by omega
  rw [List.drop_eq_getElem_cons h, show (i + 1).toNat = i.toNat + 1 by omega]
  congr 1
  simp [ix, h]
theorem drop_end {α : Type} {xs : List α} {i : Int} (h0 : 0 ≤ i) (h1 : ¬ i < xs.length) : xs.drop i.toNat = [] := List.drop_eq_nil_of_le (by omega)
theorem take_ix {α : Type} [Inhabited α] {xs : List α} {i : Int} (h0 : 0 ≤ i) (h1 : i < xs.length) : xs.take (i + 1).toNat = xs.take i.toNat ++ [ix xs i] := by
  have h : i.toNat < xs.length := by omega
  rw [show (i + 1).toNat = i.toNat + 1 by omega, List.take_succ_eq_append_getElem h]
  congr 2
  simp [ix, h]
theorem ix_mem {α : Type} [Inhabited α] {xs : List α} {i : Int} (h0 : 0 ≤ i) (h1 : i < xs.length) : ix xs i ∈ xs := by
  have h : i.toNat < xs.length := by omega
  simp [ix, h]
/-! ### Literals -/
def isLit (n l : Int) : Bool := decide (l ≠ 0 ∧ -n ≤ l ∧ l ≤ n)
def litsOk (n : Int) (c : List Int) : Bool := c.all (isLit n)
/-- n is one that may be. -/
def okN (n : Int) : Prop := 0 ≤ n ∧ n ≤ 16777216
theorem isLit_iff {n l : Int} : isLit n l = true ↔ l ≠ 0 ∧ -n ≤ l ∧ l ≤ n := by simp [isLit]
def absv (l : Int) : Int := if l < 0 then wneg l else l
theorem size_ok {l : Int} {Q : Int → Prop} (h : Q (absv l)) : V_size l Q := ⟨fun hl => by rw [absv, if_pos hl] at h; exact h, fun hl => by rw [absv, if_neg hl] at h; exact h⟩
theorem absv_eq {l : Int} (h : -16777216 ≤ l) : absv l = max l (-l) := by
  unfold absv; split
  · rw [wneg_eq (by unfold I64; omega)]; omega
  · omega
theorem Literal_ok {n l : Int} {Q : Bool → Prop} (h : Q (decide (l ≠ 0 ∧ wneg n ≤ l ∧ l ≤ n))) : V_Literal n l Q := by
  refine ⟨fun b => b = decide (l ≠ 0 ∧ wneg n ≤ l ∧ l ≤ n), fun b hb => by subst hb; exact h, fun h0 => ⟨fun h1 => ?_, fun h1 => ?_⟩, fun h0 => ?_⟩
  · simp [h0, h1]
  · simp [h1]
  · simp only [ne_eq, Decidable.not_not] at h0; simp [h0]
def litsW (n : Int) (c : List Int) : Bool := c.all fun l => decide (l ≠ 0 ∧ wneg n ≤ l ∧ l ≤ n)
theorem litsW_cons (n l : Int) (c : List Int) : litsW n (l :: c) = (decide (l ≠ 0 ∧ wneg n ≤ l ∧ l ≤ n) && litsW n c) := rfl
theorem litsW_eq {n : Int} (hn : okN n) (c : List Int) : litsW n c = litsOk n c := by
  unfold litsW litsOk isLit okN at *
  rw [wneg_eq (by unfold I64; omega)]
theorem refLiterals_ok {n : Int} {c : List Int} {Q : Bool → Prop} (h : Q (litsW n c)) : V_refLiterals n c Q := by
  refine ⟨fun i => 0 ≤ i ∧ i ≤ c.length ∧ litsW n c = litsW n (c.drop i.toNat), fun i => (c.length - i).toNat, ⟨by omega, by omega, by simp⟩, ?_⟩
  rintro i ⟨h0, h1, h2⟩ hl
  refine ⟨fun hlt => ⟨⟨h0, hlt⟩, fun _ => ?_⟩, fun hge => ?_⟩
  · rw [drop_ix h0 hlt, litsW_cons] at h2
    refine Literal_ok ⟨fun hb => ?_, fun hb => ⟨i64_succ hl h0 hlt, ⟨by omega, by omega, ?_⟩, by dsimp only; omega⟩⟩
    · simp only [Bool.not_eq_true'] at hb
      rw [hb, Bool.false_and] at h2; rw [h2] at h; exact h
    · simp only [Bool.not_eq_false'] at hb
      rw [hb, Bool.true_and] at h2; exact h2
  · rw [drop_end h0 hge] at h2; rw [h2] at h; exact h
/-- What is wrong with n and the clauses. -/
def faultOf (n : Int) (cs : List (List Int)) : Int :=
  if n < 0 ∨ 16777216 < n then 5 else if 33554432 < (cs.length : Int) then 6 else if cs.all (litsOk n) then 0 else 5
theorem Fault_ok {n : Int} {cs : List (List Int)} {Q : Int → Prop} (h : Q (faultOf n cs)) : V_Fault n cs Q := by
  refine ⟨fun hb => by rw [faultOf, if_pos hb] at h; exact h, fun hb hl => ?_⟩
  rw [faultOf, if_neg hb] at h
  refine ⟨fun hc => by rw [if_pos hc] at h; exact h, fun hc => ?_⟩
  rw [if_neg hc] at h
  have hn : okN n := ⟨by omega, by omega⟩
  refine ⟨fun i => 0 ≤ i ∧ i ≤ cs.length ∧ cs.all (litsOk n) = (cs.drop i.toNat).all (litsOk n), fun i => (cs.length - i).toNat, ⟨by omega, by omega, by simp⟩, ?_⟩
  rintro i ⟨h0, h1, h2⟩ _
  refine ⟨fun hlt => ⟨⟨h0, hlt⟩, ?_⟩, fun hge => ?_⟩
  · rw [drop_ix h0 hlt, List.all_cons] at h2
    refine refLiterals_ok ?_
    rw [litsW_eq hn]
    refine ⟨fun hb => ?_, fun hb => ⟨i64_succ hl h0 hlt, ⟨by omega, by omega, ?_⟩, by dsimp only; omega⟩⟩
    · simp only [Bool.not_eq_true'] at hb
      rw [hb, Bool.false_and] at h2; rw [h2] at h; exact h
    · simp only [Bool.not_eq_false'] at hb
      rw [hb, Bool.true_and] at h2; exact h2
  · rw [drop_end h0 hge] at h2; rw [h2] at h; exact h
theorem valid1_ok {l n : Int} {Q : Bool → Prop} (hn : okN n) (h : Q (!isLit n l)) : V_valid1 l n Q := by
  have e : (!isLit n l) = decide (l = 0 ∨ n < l ∨ l < -n) := by
    unfold isLit
    rw [← decide_not]
    congr 1
    refine propext ⟨fun h => ?_, fun h => ?_⟩ <;> omega
  rw [e] at h
  unfold okN at hn
  refine ⟨fun b => b = decide (l = 0 ∨ n < l ∨ l < -n), fun b hb => by subst hb; exact h, fun h0 => by simp [h0], fun h0 => ⟨fun h1 => by simp [h1], fun h1 => ⟨by unfold I64; omega, by simp [h0, h1]⟩⟩⟩
theorem IndexFuncI_ok {s : List Int} {G : Int → (Bool → Prop) → Prop} {Q : Int → Prop} (p : Int → Bool) (hG : ∀ x ∈ s, ∀ K : Bool → Prop, K (p x) → G x K)
    (h1 : ∀ i : Int, 0 ≤ i → i < s.length → p (ix s i) = true → (∀ x ∈ s.take i.toNat, p x = false) → Q i) (h2 : (∀ x ∈ s, p x = false) → Q (-1)) : V_IndexFuncI s G Q := by
  intro hl
  refine ⟨fun i => 0 ≤ i ∧ i ≤ s.length ∧ ∀ x ∈ s.take i.toNat, p x = false, fun i => (s.length - i).toNat, ⟨by omega, by omega, by simp⟩, ?_⟩
  rintro i ⟨g0, g1, g2⟩
  refine ⟨fun hlt => ⟨⟨g0, hlt⟩, fun _ => hG _ (ix_mem g0 hlt) _ ⟨fun hb => h1 i g0 hlt hb g2, fun hb => ⟨i64_succ hl g0 hlt, ⟨by omega, by omega, ?_⟩, by dsimp only; omega⟩⟩⟩, fun hge => h2 ?_⟩
  · rw [take_ix g0 hlt]
    intro x hx
    rcases List.mem_append.1 hx with hx | hx
    · exact g2 x hx
    · rw [List.mem_singleton.1 hx]; exact hb
  · rwa [List.take_of_length_le (by omega)] at g2
theorem IndexFuncL_ok {s : List (List Int)} {G : List Int → (Bool → Prop) → Prop} {Q : Int → Prop} (p : List Int → Bool) (hG : ∀ x ∈ s, ∀ K : Bool → Prop, K (p x) → G x K)
    (h1 : ∀ i : Int, 0 ≤ i → i < s.length → p (ix s i) = true → (∀ x ∈ s.take i.toNat, p x = false) → Q i) (h2 : (∀ x ∈ s, p x = false) → Q (-1)) : V_IndexFuncL s G Q := by
  intro hl
  refine ⟨fun i => 0 ≤ i ∧ i ≤ s.length ∧ ∀ x ∈ s.take i.toNat, p x = false, fun i => (s.length - i).toNat, ⟨by omega, by omega, by simp⟩, ?_⟩
  rintro i ⟨g0, g1, g2⟩
  refine ⟨fun hlt => ⟨⟨g0, hlt⟩, hG _ (ix_mem g0 hlt) _ ⟨fun hb => h1 i g0 hlt hb g2, fun hb => ⟨i64_succ hl g0 hlt, ⟨by omega, by omega, ?_⟩, by dsimp only; omega⟩⟩⟩, fun hge => h2 ?_⟩
  · rw [take_ix g0 hlt]
    intro x hx
    rcases List.mem_append.1 hx with hx | hx
    · exact g2 x hx
    · rw [List.mem_singleton.1 hx]; exact hb
  · rwa [List.take_of_length_le (by omega)] at g2
theorem ContainsFuncI_ok {s : List Int} {G : Int → (Bool → Prop) → Prop} {Q : Bool → Prop} (p : Int → Bool) (hG : ∀ x ∈ s, ∀ K : Bool → Prop, K (p x) → G x K) (h : Q (s.any p)) : V_ContainsFuncI s G Q := by
  refine IndexFuncI_ok p hG (fun i h0 h1 hp _ => ?_) (fun hall => ?_)
  · have : s.any p = true := List.any_eq_true.2 ⟨_, ix_mem h0 h1, hp⟩
    rw [this] at h; simpa [h0] using h
  · have : s.any p = false := List.any_eq_false.2 fun x hx => by simp [hall x hx]
    rw [this] at h; simpa using h
theorem ContainsFuncL_ok {s : List (List Int)} {G : List Int → (Bool → Prop) → Prop} {Q : Bool → Prop} (p : List Int → Bool) (hG : ∀ x ∈ s, ∀ K : Bool → Prop, K (p x) → G x K) (h : Q (s.any p)) : V_ContainsFuncL s G Q := by
  refine IndexFuncL_ok p hG (fun i h0 h1 hp _ => ?_) (fun hall => ?_)
  · have : s.any p = true := List.any_eq_true.2 ⟨_, ix_mem h0 h1, hp⟩
    rw [this] at h; simpa [h0] using h
  · have : s.any p = false := List.any_eq_false.2 fun x hx => by simp [hall x hx]
    rw [this] at h; simpa using h
theorem not_any_not {α : Type} (p : α → Bool) (l : List α) : (!l.any fun x => !p x) = l.all p := by induction l with
  | nil => rfl
  | cons a l ih => simp only [List.any_cons, List.all_cons, Bool.not_or, Bool.not_not, ih]
theorem valid_ok {n : Int} {c : List Int} {Q : Bool → Prop} (hn : okN n) (h : Q (litsOk n c)) : V_valid n c Q := by
  refine ContainsFuncI_ok (fun l => !isLit n l) (fun x _ K hK => valid1_ok hn hK) ?_
  rw [not_any_not]; exact h
theorem checked1_ok {n : Int} {c : List Int} {Q : Bool → Prop} (hn : okN n) (h : Q (!litsOk n c)) : V_checked1 c n Q := valid_ok hn h
/-- What the program says is wrong. -/
def wrongOf (n : Int) (cs : List (List Int)) (more : List Int) : Option Int :=
  if n < 0 ∨ 16777216 < n then some 5 else if 33554432 < (cs.length : Int) then some 6 else if cs.all (litsOk n) && litsOk n more then none else some 5
theorem checked_ok {n : Int} {cs : List (List Int)} {more : List Int} {Q : Option Int → Prop} (h : Q (wrongOf n cs more)) : V_checked n cs more Q := by
  refine ⟨fun b => b = decide (n < 0 ∨ 16777216 < n), ?_, fun h0 => by simp [h0], fun h0 => by simp [h0]⟩
  rintro b rfl
  refine ⟨fun hb => ?_, fun hb hl => ?_⟩
  · have hb := of_decide_eq_true hb
    rw [wrongOf, if_pos hb] at h; exact h
  · have hb := of_decide_eq_false hb
    have hn : okN n := ⟨by omega, by omega⟩
    rw [wrongOf, if_neg hb] at h
    refine ⟨fun hc => by rw [if_pos hc] at h; exact h, fun hc => ?_⟩
    rw [if_neg hc] at h
    refine ⟨fun b => b = !(cs.all (litsOk n) && litsOk n more), ?_, ?_⟩
    · rintro b rfl
      refine ⟨fun hb => ?_, fun hb => ?_⟩
      · simp only [Bool.not_eq_true'] at hb
        rw [hb] at h; exact h
      · simp only [Bool.not_eq_false'] at hb
        rw [hb] at h; exact h
    · refine ContainsFuncL_ok (fun c => !litsOk n c) (fun x _ K hK => checked1_ok hn hK) ?_
      refine ⟨fun hb => ?_, fun hb => ?_⟩
      · have := not_any_not (litsOk n) cs
        rw [hb] at this; rw [← this]; rfl
      · refine valid_ok hn ?_
        have := not_any_not (litsOk n) cs
        rw [hb] at this; rw [← this]; simp
end Go.Vc
set_option linter.unusedVariables false
namespace Go.Vc
def sgn (l : Int) : Int := if l < 0 then -1 else 1
def av (l : Int) : Int := max l (-l)
def valOf (val : List Int) (l : Int) : Int := if l < 0 then -(ix val (av l)) else ix val (av l)
def setv (val : List Int) (l : Int) : List Int := val.set (av l).toNat (sgn l)
def Vals (n : Int) (val : List Int) : Prop := val.length = (n + 1).toNat ∧ ∀ x ∈ val, x = -1 ∨ x = 0 ∨ x = 1
theorem Vals.at {n : Int} {val : List Int} (h : Vals n val) (l : Int) : ix val l = -1 ∨ ix val l = 0 ∨ ix val l = 1 := by
  unfold ix
  rw [List.getD_eq_getElem?_getD]
  cases he : val[l.toNat]? with
  | none => right; left; rfl
  | some x => exact h.2 x (List.mem_of_getElem? he)
theorem Vals.in {n l : Int} {val : List Int} (hn : okN n) (h : Vals n val) (hl : isLit n l = true) : In (av l) val := by
  rw [isLit_iff] at hl
  unfold okN at hn
  have := h.1
  unfold In av; omega
theorem Vals.of {n : Int} {val : List Int} (h : Vals n val) (l : Int) : valOf val l = -1 ∨ valOf val l = 0 ∨ valOf val l = 1 := by
  have := h.at (av l)
  unfold valOf; split <;> omega
theorem Vals.set {n l : Int} {val : List Int} (h : Vals n val) : Vals n (setv val l) := by
  refine ⟨by rw [setv, List.length_set]; exact h.1, fun x hx => ?_⟩
  rcases List.mem_or_eq_of_mem_set hx with hx | rfl
  · exact h.2 x hx
  · unfold sgn; split <;> simp
theorem lit_abs {n l : Int} (hn : okN n) (hl : isLit n l = true) : absv l = av l := by
  rw [isLit_iff] at hl; unfold okN at hn; exact absv_eq (by omega)
theorem lit_av {n l : Int} (hn : okN n) (hl : isLit n l = true) : 1 ≤ av l ∧ av l ≤ n ∧ av l ≤ 16777216 ∧ I64 (-l) := by
  rw [isLit_iff] at hl; unfold okN at hn; unfold av I64; omega
theorem i64_small {x : Int} (h : x = -1 ∨ x = 0 ∨ x = 1) : I64 (-x) := by unfold I64; omega
theorem refSet_ok {n l : Int} {val : List Int} {Q : Bool → List Int → Prop} (hn : okN n) (hv : Vals n val) (hl : isLit n l = true) (h1 : valOf val l = -1 → Q false val) (h2 : valOf val l ≠ -1 → Q true (setv val l)) : V_refSet val l Q := by
  refine ⟨fun v => v = sgn l, ?_, fun h => by simp [sgn, h], fun h => by simp [sgn, h]⟩
  rintro v rfl
  refine size_ok ?_
  rw [lit_abs hn hl]
  refine ⟨hv.in hn hl, fun _ => ⟨by unfold sgn I64; split <;> omega, fun he => h1 ?_, fun he => ⟨hv.in hn hl, h2 ?_⟩⟩⟩
  · unfold valOf; unfold sgn at he; split at he <;> simp_all
  · unfold valOf; unfold sgn at he; split at he <;> simp_all <;> omega

/-- How many unlike literals of a clause are open (2: more than one, or one is true), and the open one. -/
def unitGo (val : List Int) : Int → List Int → Int × Int
  | o, [] => if o = 0 then (0, 0) else (o, 1)
  | o, l :: ls => if 0 < valOf val l then (0, 2) else if valOf val l = 0 ∧ o ≠ 0 ∧ l ≠ o then (0, 2) else if valOf val l = 0 then unitGo val l ls else unitGo val o ls
theorem unitGo_cases (val : List Int) : ∀ (c : List Int) (o : Int), (unitGo val o c).2 = 0 ∨ (unitGo val o c).2 = 2 ∨ ((unitGo val o c).2 = 1 ∧ (((unitGo val o c).1 = o ∧ o ≠ 0) ∨ ((unitGo val o c).1 ∈ c ∧ valOf val (unitGo val o c).1 = 0)))
  | [], o => by unfold unitGo; split <;> simp_all
  | l :: ls, o => by
    unfold unitGo
    split
    · simp
    · split
      · simp
      · split
        · rename_i h1 h2 h3
          rcases unitGo_cases val ls l with h | h | ⟨h, ⟨h4, _⟩ | ⟨h4, h5⟩⟩
          · exact .inl h
          · exact .inr (.inl h)
          · exact .inr (.inr ⟨h, .inr ⟨by rw [h4]; simp, by rw [h4]; exact h3⟩⟩)
          · exact .inr (.inr ⟨h, .inr ⟨by simp [h4], h5⟩⟩)
        · rcases unitGo_cases val ls o with h | h | ⟨h, h4 | ⟨h4, h5⟩⟩
          · exact .inl h
          · exact .inr (.inl h)
          · exact .inr (.inr ⟨h, .inl h4⟩)
          · exact .inr (.inr ⟨h, .inr ⟨by simp [h4], h5⟩⟩)
theorem unit_one {val c : List Int} (h : (unitGo val 0 c).2 = 1) : (unitGo val 0 c).1 ∈ c ∧ valOf val (unitGo val 0 c).1 = 0 := by
  rcases unitGo_cases val c 0 with h' | h' | ⟨_, ⟨_, h'⟩ | h'⟩
  · omega
  · omega
  · exact absurd rfl h'
  · exact h'
theorem lits_ix {n : Int} {c : List Int} {i : Int} (hc : litsOk n c = true) (h0 : 0 ≤ i) (h1 : i < c.length) : isLit n (ix c i) = true := List.all_eq_true.1 hc _ (ix_mem h0 h1)
theorem refUnit_ok {n : Int} {val c : List Int} {Q : Int → Int → Prop} (hn : okN n) (hv : Vals n val) (hc : litsOk n c = true) (h : Q (unitGo val 0 c).1 (unitGo val 0 c).2) : V_refUnit val c Q := by
  refine ⟨fun s => 0 ≤ s.2 ∧ s.2 ≤ c.length ∧ unitGo val 0 c = unitGo val s.1 (c.drop s.2.toNat), fun s => (c.length - s.2).toNat, ⟨by simp, by simp, by simp⟩, ?_⟩
  rintro ⟨o, i⟩ ⟨g0, g1, g2⟩ hl
  simp only at g0 g1 g2
  refine ⟨fun hlt => ?_, fun hge => ?_⟩
  · have hlit := lits_ix hc g0 hlt
    rw [drop_ix g0 hlt] at g2
    generalize hcl : ix c i = x at *
    refine ⟨fun o' => unitGo val 0 c = unitGo val o' (c.drop (i + 1).toNat), fun o' ho => ⟨i64_succ hl g0 hlt, ⟨by dsimp only; omega, by dsimp only; omega, ho⟩, by dsimp only; omega⟩, ⟨g0, hlt⟩, fun _ => ?_⟩
    refine size_ok ?_
    rw [lit_abs hn hlit]
    refine ⟨hv.in hn hlit, fun _ => ⟨fun v => v = valOf val x, ?_, ⟨g0, hlt⟩, fun _ => ⟨fun hx => ⟨i64_small (hv.at _), by simp [valOf, hx]⟩, fun hx => by simp [valOf, hx]⟩⟩⟩
    rintro v rfl
    rw [unitGo] at g2
    refine ⟨fun hp => ?_, fun hp => ?_⟩
    · rw [if_pos hp] at g2; rw [g2] at h; exact h
    · rw [if_neg hp] at g2
      refine ⟨fun b => b = decide (valOf val x = 0 ∧ o ≠ 0 ∧ x ≠ o), ?_, fun hz => ⟨fun ho => ⟨⟨g0, hlt⟩, fun _ => by simp [hz, ho]⟩, fun ho => ?_⟩, fun hz => ?_⟩
      · rintro b rfl
        refine ⟨fun hb => ?_, fun hb => ?_⟩
        · rw [if_pos (of_decide_eq_true hb)] at g2; rw [g2] at h; exact h
        · rw [if_neg (of_decide_eq_false hb)] at g2
          refine ⟨fun hz => ⟨⟨g0, hlt⟩, fun _ => ?_⟩, fun hz => ?_⟩
          · rw [if_pos hz] at g2; exact g2
          · rw [if_neg hz] at g2; exact g2
      · simp only [ne_eq, Decidable.not_not] at ho; simp [ho]
      · simp [hz]
  · rw [drop_end g0 hge, unitGo] at g2
    refine ⟨fun ho => ?_, fun ho => ?_⟩
    · rw [if_pos ho] at g2; rw [g2] at h; exact h
    · rw [if_neg ho] at g2; rw [g2] at h; exact h

/-- Once through the clauses. -/
def passF : List (List Int) → List Int → Bool → Option (List Int × Bool)
  | [], val, more => some (val, more)
  | c :: cs, val, more => if (unitGo val 0 c).2 = 0 then none else if (unitGo val 0 c).2 = 1 then passF cs (setv val (unitGo val 0 c).1) true else passF cs val more
def zeros (val : List Int) : Nat := val.count 0
theorem count_set_zero : ∀ (val : List Int) (k : Nat) (v : Int), val[k]? = some 0 → v ≠ 0 → (val.set k v).count 0 + 1 = val.count 0
  | [], k, v, h, _ => by simp at h
  | x :: xs, 0, v, h, hv => by simp at h; subst h; simp [hv]
  | x :: xs, k + 1, v, h, hv => by
    simp only [List.getElem?_cons_succ] at h
    have := count_set_zero xs k v h hv
    simp only [List.set_cons_succ, List.count_cons]
    omega
theorem zeros_set {n l : Int} {val : List Int} (hn : okN n) (hv : Vals n val) (hl : isLit n l = true) (h0 : valOf val l = 0) : zeros (setv val l) < zeros val := by
  have hin := hv.in hn hl
  have hz : ix val (av l) = 0 := by unfold valOf at h0; split at h0 <;> omega
  have := count_set_zero val (av l).toNat (sgn l) (by rw [ix_get hin.1 hin.2, hz]) (by unfold sgn; split <;> omega)
  unfold zeros setv; omega
theorem mem_lits {n l : Int} {c : List Int} (hc : litsOk n c = true) (h : l ∈ c) : isLit n l = true := List.all_eq_true.1 hc l h
theorem pass_ok {n : Int} (hn : okN n) : ∀ {cs : List (List Int)} {val v' : List Int} {more m' : Bool}, Vals n val → cs.all (litsOk n) = true → passF cs val more = some (v', m') →
    Vals n v' ∧ zeros v' ≤ zeros val ∧ (m' = true → more = true ∨ zeros v' < zeros val)
  | [], val, v', more, m', hv, _, h => by simp [passF] at h; obtain ⟨rfl, rfl⟩ := h; exact ⟨hv, Nat.le_refl _, fun h => .inl h⟩
  | c :: cs, val, v', more, m', hv, hc, h => by
    rw [List.all_cons, Bool.and_eq_true] at hc
    unfold passF at h
    split at h
    · cases h
    · split at h
      · rename_i h1
        obtain ⟨h2, h3⟩ := unit_one h1
        have hz := zeros_set hn hv (mem_lits hc.1 h2) h3
        obtain ⟨g1, g2, _⟩ := pass_ok hn hv.set hc.2 h
        exact ⟨g1, by omega, fun _ => .inr (by omega)⟩
      · exact pass_ok hn hv hc.2 h
def propag (cs : List (List Int)) : Nat → List Int → Option (List Int)
  | 0, _ => none
  | k + 1, val => match passF cs val false with
    | none => none
    | some (v, true) => propag cs k v
    | some (v, false) => some v
theorem propag_fuel {n : Int} (hn : okN n) {cs : List (List Int)} (hc : cs.all (litsOk n) = true) : ∀ (k k' : Nat) (val : List Int), Vals n val → zeros val < k → zeros val < k' → propag cs k val = propag cs k' val
  | 0, _, _, _, h, _ => by omega
  | _, 0, _, _, _, h => by omega
  | k + 1, k' + 1, val, hv, h1, h2 => by
    unfold propag
    cases hp : passF cs val false with
    | none => rfl
    | some r =>
      obtain ⟨v, m⟩ := r
      cases m with
      | false => rfl
      | true =>
        obtain ⟨g1, g2, g3⟩ := pass_ok hn hv hc hp
        rcases g3 rfl with g3 | g3
        · cases g3
        · exact propag_fuel hn hc k k' v g1 (by omega) (by omega)
def setAll : List Int → List Int → Option (List Int)
  | [], val => some val
  | l :: ls, val => if valOf val l = -1 then none else setAll ls (setv val l)
def start (n : Int) : List Int := List.replicate (n + 1).toNat 0
/-- What follows of clauses and what is given. -/
def followF (n : Int) (cs : List (List Int)) (given : List Int) : Option (List Int) := (setAll given (start n)).bind (propag cs (n.toNat + 2))
theorem start_vals (n : Int) : Vals n (start n) := ⟨by simp [start], fun x hx => by simp [start] at hx; simp [hx.2]⟩
theorem setAll_vals {n : Int} : ∀ {ls val v : List Int}, Vals n val → setAll ls val = some v → Vals n v
  | [], _, _, hv, h => by cases h; exact hv
  | l :: ls, val, v, hv, h => by
    unfold setAll at h
    split at h
    · cases h
    · exact setAll_vals hv.set h
theorem zeros_le {n : Int} {val : List Int} (hn : okN n) (h : Vals n val) : zeros val < n.toNat + 2 := by
  have := List.count_le_length (a := (0 : Int)) (l := val)
  have := h.1
  unfold zeros; unfold okN at hn; omega
/-- What is handed back. -/
def answer {β : Type} (f : List Int → β) (z : β) (Q : β → Bool → Prop) : Option (List Int) → Prop
  | none => Q z false
  | some v => Q (f v) true
theorem refFollow_ok {n : Int} {cs : List (List Int)} {given : List Int} {Q : List Int → Bool → Prop} (hn : okN n) (hc : cs.all (litsOk n) = true) (hg : litsOk n given = true) (h : answer id [] Q (followF n cs given)) : V_refFollow n cs given Q := by
  have hn' := hn
  unfold okN at hn'
  refine ⟨by unfold I64; omega, ⟨by omega, by omega, by omega⟩, ?_⟩
  refine ⟨fun s => 0 ≤ s.2 ∧ s.2 ≤ given.length ∧ Vals n s.1 ∧ setAll given (start n) = setAll (given.drop s.2.toNat) s.1, fun s => (given.length - s.2).toNat, ⟨by simp, by simp, start_vals n, by simp [start]⟩, ?_⟩
  rintro ⟨val, i⟩ ⟨g0, g1, hv, g2⟩ hl
  simp only at g0 g1 g2 hv
  refine ⟨fun hlt => ⟨⟨g0, hlt⟩, fun _ => ?_⟩, fun hge => ?_⟩
  · have hlit := lits_ix hg g0 hlt
    rw [drop_ix g0 hlt, setAll] at g2
    refine refSet_ok hn hv hlit (fun he => ?_) (fun he => ?_)
    · rw [if_pos he] at g2
      refine ⟨fun _ => ?_, fun h => by cases h⟩
      rw [followF, g2] at h; exact h
    · rw [if_neg he] at g2
      exact ⟨fun h => by (cases h), fun _ => ⟨i64_succ hl g0 hlt, ⟨by dsimp only; omega, by dsimp only; omega, hv.set, g2⟩, by dsimp only; omega⟩⟩
  · rw [drop_end g0 hge, setAll] at g2
    rw [followF, g2, Option.bind_some, propag_fuel hn hc _ (zeros val + 1) val hv (zeros_le hn hv) (by omega)] at h
    refine ⟨fun v => Vals n v ∧ answer id [] Q (propag cs (zeros v + 1) v), zeros, ⟨hv, h⟩, ?_⟩
    clear g2 h hv
    rintro val ⟨hv, h⟩
    refine ⟨fun s => 0 ≤ s.2.2 ∧ s.2.2 ≤ cs.length ∧ Vals n s.1 ∧ passF cs val false = passF (cs.drop s.2.2.toNat) s.1 s.2.1 ∧ zeros s.1 ≤ zeros val ∧ (s.2.1 = true → zeros s.1 < zeros val), fun s => (cs.length - s.2.2).toNat,
      ⟨by simp, by simp, hv, by simp, Nat.le_refl _, fun h => by cases h⟩, ?_⟩
    rintro ⟨v, more, k⟩ ⟨k0, k1, kv, kp, kz, km⟩ hl
    simp only at k0 k1 kv kp kz km
    refine ⟨fun hlt => ?_, fun hge => ?_⟩
    · have hcl : litsOk n (ix cs k) = true := List.all_eq_true.1 hc _ (ix_mem k0 hlt)
      rw [drop_ix k0 hlt, passF] at kp
      refine ⟨fun s => Vals n s.1 ∧ passF cs val false = passF (cs.drop (k + 1).toNat) s.1 s.2 ∧ zeros s.1 ≤ zeros val ∧ (s.2 = true → zeros s.1 < zeros val), ?_, ⟨k0, hlt⟩, ?_⟩
      · rintro ⟨v', m'⟩ ⟨j1, j2, j3, j4⟩
        exact ⟨i64_succ hl k0 hlt, ⟨by dsimp only; omega, by dsimp only; omega, j1, j2, j3, j4⟩, by dsimp only; omega⟩
      · refine refUnit_ok hn kv hcl ⟨fun h0 => ?_, fun h0 => ⟨fun h1 => ?_, fun h1 => ?_⟩⟩
        · rw [if_pos h0] at kp
          rw [propag, kp] at h; exact h
        · rw [if_neg h0, if_pos h1] at kp
          obtain ⟨h2, h3⟩ := unit_one h1
          have hlit := mem_lits hcl h2
          refine refSet_ok hn kv hlit (fun he => by omega) (fun he => ?_)
          have := zeros_set hn kv hlit h3
          exact ⟨kv.set, kp, by dsimp only; omega, fun _ => by dsimp only; omega⟩
        · rw [if_neg h0, if_neg h1] at kp
          exact ⟨kv, kp, kz, km⟩
    · rw [drop_end k0 hge, passF] at kp
      rw [propag, kp] at h
      refine ⟨fun hm => ?_, fun hm => ?_⟩
      · simp only [Bool.not_eq_true'] at hm
        subst hm; exact h
      · simp only [Bool.not_eq_false'] at hm
        subst hm
        simp only at h
        rw [propag_fuel hn hc _ (zeros v + 1) v kv (km rfl) (by omega)] at h
        exact ⟨⟨kv, h⟩, km rfl⟩

/-- All that is true, by its variables, up to one. -/
def trueTo (val : List Int) (k : Nat) : List Int := ((List.range' 1 k).filter fun v : Nat => decide (ix val (v : Int) ≠ 0)).map fun v : Nat => (v : Int) * ix val (v : Int)
theorem trueTo_succ (val : List Int) (k : Nat) : trueTo val (k + 1) = trueTo val k ++ (if ix val ((k : Int) + 1) ≠ 0 then [((k : Int) + 1) * ix val ((k : Int) + 1)] else []) := by
  have e : ((k + 1 : Nat) : Int) = (k : Int) + 1 := by omega
  unfold trueTo
  rw [List.range'_concat, List.filter_append, List.map_append]
  congr 1
  rw [show 1 + 1 * k = k + 1 by omega]
  by_cases h : ix val ((k : Int) + 1) ≠ 0
  · rw [if_pos h]; simp [e, h]
  · rw [if_neg h]; simp only [ne_eq, Decidable.not_not] at h; simp [e, h]
theorem trueTo_length (val : List Int) (k : Nat) : (trueTo val k).length ≤ k := by
  unfold trueTo
  rw [List.length_map]
  exact Nat.le_trans (List.length_filter_le _ _) (by simp)
end Go.Vc
set_option linter.unusedVariables false
namespace Go.Vc
theorem Ints_ok {a b : List Int} {Q : Bool → Prop} (h : Q (decide (a = b))) : V_sameInts a b Q := by
  intro ha hb
  refine ⟨fun hne => ?_, fun heq => ?_⟩
  · have : a ≠ b := by rintro rfl; exact hne rfl
    simpa [this] using h
  · have heq' : a.length = b.length := by omega
    refine ⟨fun i => 0 ≤ i ∧ i ≤ a.length ∧ (a = b ↔ a.drop i.toNat = b.drop i.toNat), fun i => (a.length - i).toNat, ⟨by omega, by omega, by simp⟩, ?_⟩
    rintro i ⟨g0, g1, g2⟩ _
    refine ⟨fun hlt => ⟨⟨g0, hlt⟩, fun _ => ⟨⟨g0, by omega⟩, fun _ => ?_⟩⟩, fun hge => ?_⟩
    · rw [drop_ix g0 hlt, drop_ix (xs := b) g0 (by omega), List.cons.injEq] at g2
      refine ⟨fun hx => ?_, fun hx => ⟨i64_succ ha g0 hlt, ⟨by omega, by omega, ?_⟩, by dsimp only; omega⟩⟩
      · have : a ≠ b := fun e => hx (g2.1 e).1
        simpa [this] using h
      · simp only [ne_eq, Decidable.not_not] at hx
        exact g2.trans ⟨fun h => h.2, fun h => ⟨hx, h⟩⟩
    · rw [drop_end g0 hge, drop_end (xs := b) g0 (by omega)] at g2
      have : a = b := g2.2 rfl
      simpa [this] using h
theorem sameClauses_ok {a b : List (List Int)} {Q : Bool → Prop} (h : Q (decide (a = b))) : V_sameClauses a b Q := by
  intro ha hb
  refine ⟨fun hne => ?_, fun heq => ?_⟩
  · have : a ≠ b := by rintro rfl; exact hne rfl
    simpa [this] using h
  · have heq' : a.length = b.length := by omega
    refine ⟨fun i => 0 ≤ i ∧ i ≤ a.length ∧ (a = b ↔ a.drop i.toNat = b.drop i.toNat), fun i => (a.length - i).toNat, ⟨by omega, by omega, by simp⟩, ?_⟩
    rintro i ⟨g0, g1, g2⟩ _
    refine ⟨fun hlt => ⟨⟨g0, hlt⟩, ⟨g0, by omega⟩, Ints_ok ?_⟩, fun hge => ?_⟩
    · rw [drop_ix g0 hlt, drop_ix (xs := b) g0 (by omega), List.cons.injEq] at g2
      refine ⟨fun hx => ?_, fun hx => ⟨i64_succ ha g0 hlt, ⟨by omega, by omega, ?_⟩, by dsimp only; omega⟩⟩
      · simp only [Bool.not_eq_true', decide_eq_false_iff_not] at hx
        have : a ≠ b := fun e => hx (g2.1 e).1
        simpa [this] using h
      · simp only [Bool.not_eq_false', decide_eq_true_eq] at hx
        exact g2.trans ⟨fun h => h.2, fun h => ⟨hx, h⟩⟩
    · rw [drop_end g0 hge, drop_end (xs := b) g0 (by omega)] at g2
      have : a = b := g2.2 rfl
      simpa [this] using h
/-- Lists that may be copied. -/
def Fits (xs : List Int) : Prop := xs.length ≤ 17592186044416
def FitsL (cs : List (List Int)) : Prop := cs.length ≤ 5864062014805 ∧ ∀ c ∈ cs, Fits c
theorem Fits.room {xs : List Int} (h : Fits xs) (k : Nat) (hk : k ≤ 1) : Room (k + xs.length) 8 ∨ k = 1 := by
  by_cases h0 : k = 1
  · exact .inr h0
  · unfold Fits at h; left; unfold Room maxLen; omega
theorem copied_ok {l : List (List Int)} {Q : List (List Int) → Prop} (hf : FitsL l) (h : Q l) : V_copied l Q := by
  refine ⟨fun s => 0 ≤ s.2 ∧ s.2 ≤ l.length ∧ s.1 = l.take s.2.toNat, fun s => (l.length - s.2).toNat, ⟨by simp, by simp, by simp⟩, ?_⟩
  rintro ⟨out, i⟩ ⟨g0, g1, g2⟩ hl
  simp only at g0 g1 g2
  refine ⟨fun hlt => ⟨⟨g0, hlt⟩, ?_, ?_, i64_succ hl g0 hlt, ⟨by dsimp only; omega, by dsimp only; omega, ?_⟩, by dsimp only; omega⟩, fun hge => ?_⟩
  · have := hf.2 _ (ix_mem g0 hlt)
    unfold Fits at this
    constructor
    · simp; omega
    · simp [maxLen]; omega
  · have := hf.1
    have hol : out.length ≤ i.toNat := by rw [g2, List.length_take]; omega
    constructor
    · simp; omega
    · simp [maxLen]; omega
  · dsimp only; rw [take_ix g0 hlt, g2]
  · have : out = l := by rw [g2, List.take_of_length_le (by omega)]
    rw [this]; exact h
end Go.Vc
set_option linter.unusedVariables false
namespace Go.Vc
/-! ### Clauses alike -/
def within (a b : List Int) : Bool := a.all fun x => decide (x ∈ b)
def alikeF (a b : List Int) : Bool := within a b && within b a
theorem within_ok {a b : List Int} {Q : Bool → Prop} (h : Q (within a b)) : V_within a b Q := by
  refine ⟨fun i => 0 ≤ i ∧ i ≤ a.length ∧ within a b = within (a.drop i.toNat) b, fun i => (a.length - i).toNat, ⟨by omega, by omega, by simp⟩, ?_⟩
  rintro i ⟨g0, g1, g2⟩ hl
  refine ⟨fun hlt => ?_, fun hge => ?_⟩
  · rw [drop_ix g0 hlt] at g2
    refine ⟨fun s => 0 ≤ s.2 ∧ s.2 ≤ b.length ∧ (ix a i ∈ b ↔ (s.1 = true ∨ ix a i ∈ b.drop s.2.toNat)), fun s => (b.length - s.2).toNat, ⟨by simp, by simp, by simp⟩, ?_⟩
    rintro ⟨t, k⟩ ⟨k0, k1, k2⟩ hl2
    simp only at k0 k1 k2
    refine ⟨fun hlt2 => ?_, fun hge2 => ?_⟩
    · rw [drop_ix k0 hlt2, List.mem_cons] at k2
      refine ⟨fun t' => (ix a i ∈ b ↔ (t' = true ∨ ix a i ∈ b.drop (k + 1).toNat)), fun t' ht => ⟨i64_succ hl2 k0 hlt2, ⟨by dsimp only; omega, by dsimp only; omega, ht⟩, by dsimp only; omega⟩, fun ht => ?_, fun ht => ⟨⟨g0, hlt⟩, fun _ => ⟨⟨k0, hlt2⟩, fun _ => ?_⟩⟩⟩
      · subst ht; exact k2.trans ⟨fun _ => .inl rfl, fun _ => .inl rfl⟩
      · subst ht
        refine k2.trans ⟨fun h => ?_, fun h => ?_⟩
        · rcases h with h | h | h
          · cases h
          · exact .inl (by simpa using h)
          · exact .inr h
        · rcases h with h | h
          · exact .inr (.inl (by simpa using h))
          · exact .inr (.inr h)
    · rw [drop_end k0 hge2] at k2
      refine ⟨fun ht => ?_, fun ht => ⟨i64_succ hl g0 hlt, ⟨by omega, by omega, ?_⟩, by dsimp only; omega⟩⟩
      · simp only [Bool.not_eq_true'] at ht
        have : ix a i ∉ b := fun h => by have := k2.1 h; simp [ht] at this
        have g3 : within a b = (decide (ix a i ∈ b) && within (a.drop (i + 1).toNat) b) := g2
        simp only [this, decide_false, Bool.false_and] at g3
        rw [g3] at h; exact h
      · simp only [Bool.not_eq_false'] at ht
        have : ix a i ∈ b := k2.2 (.inl ht)
        have g3 : within a b = (decide (ix a i ∈ b) && within (a.drop (i + 1).toNat) b) := g2
        simp only [this, decide_true, Bool.true_and] at g3
        exact g3
  · rw [drop_end g0 hge] at g2; rw [g2] at h; exact h
theorem refAlike_ok {a b : List Int} {Q : Bool → Prop} (h : Q (alikeF a b)) : V_refAlike a b Q := by
  refine within_ok (within_ok ?_)
  simpa [alikeF] using h
def tidyF (c : List Int) : List Int := Lib.compact (c.mergeSort fun x y => decide (x ≤ y))
theorem tidyF_strict (c : List Int) : (tidyF c).Pairwise (· < ·) := by
  refine compact_strict ?_
  have := List.pairwise_mergeSort (le := fun x y : Int => decide (x ≤ y)) (fun a b c h1 h2 => by simp at *; omega) (fun a b => by simp; omega) c
  exact this.imp fun h => by simpa using h
theorem mem_tidyF {c : List Int} {x : Int} : x ∈ tidyF c ↔ x ∈ c := by unfold tidyF; rw [mem_compact, List.mem_mergeSort]
theorem alikeF_eq (a b : List Int) : alikeF a b = decide (tidyF a = tidyF b) := by
  rw [Bool.eq_iff_iff]
  simp only [alikeF, within, Bool.and_eq_true, List.all_eq_true, decide_eq_true_eq]
  constructor
  · rintro ⟨h1, h2⟩
    exact strict_ext (tidyF_strict a) (tidyF_strict b) fun x => by rw [mem_tidyF, mem_tidyF]; exact ⟨h1 x, h2 x⟩
  · intro h
    exact ⟨fun x hx => by rw [← mem_tidyF, ← h, mem_tidyF]; exact hx, fun x hx => by rw [← mem_tidyF, h, mem_tidyF]; exact hx⟩
theorem IndexI_any {s : List Int} {v : Int} {Q : Int → Prop} (h : ∀ r, Q r) : V_IndexI s v Q := by
  intro hl
  refine ⟨fun i => 0 ≤ i ∧ i ≤ s.length, fun i => (s.length - i).toNat, ⟨by omega, by omega⟩, ?_⟩
  rintro i ⟨g0, g1⟩
  exact ⟨fun hlt => ⟨⟨g0, hlt⟩, fun _ => ⟨fun _ => h _, fun _ => ⟨i64_succ hl g0 hlt, ⟨by omega, by omega⟩, by dsimp only; omega⟩⟩⟩, fun _ => h _⟩
theorem IndexI_ok {s : List Int} {v : Int} {Q : Int → Prop} (h1 : ∀ i : Int, 0 ≤ i → i < s.length → v ∈ s → Q i) (h2 : v ∉ s → Q (-1)) : V_IndexI s v Q := by
  intro hl
  refine ⟨fun i => 0 ≤ i ∧ i ≤ s.length ∧ ∀ x ∈ s.take i.toNat, x ≠ v, fun i => (s.length - i).toNat, ⟨by omega, by omega, by simp⟩, ?_⟩
  rintro i ⟨g0, g1, g2⟩
  refine ⟨fun hlt => ⟨⟨g0, hlt⟩, fun _ => ⟨fun he => h1 i g0 hlt (he ▸ ix_mem g0 hlt), fun he => ⟨i64_succ hl g0 hlt, ⟨by omega, by omega, ?_⟩, by dsimp only; omega⟩⟩⟩, fun hge => h2 ?_⟩
  · rw [take_ix g0 hlt]
    intro x hx
    rcases List.mem_append.1 hx with hx | hx
    · exact g2 x hx
    · rw [List.mem_singleton.1 hx]; exact fun e => he e.symm
  · rw [List.take_of_length_le (by omega)] at g2
    exact fun h => g2 v h rfl
theorem ContainsI_ok {s : List Int} {v : Int} {Q : Bool → Prop} (h : Q (decide (v ∈ s))) : V_ContainsI s v Q :=
  IndexI_ok (fun i h0 _ hm => by simpa [hm, h0] using h) (fun hm => by simpa [hm] using h)
theorem CloneI_ok {s : List Int} {Q : List Int → Prop} (hf : Fits s) (h : Q s) : V_CloneI s Q := by
  rintro b hb
  unfold Fits at hf
  refine ⟨fun h1 => by rw [hb h1] at h; exact h, fun _ => ⟨⟨by simp; omega, by simp [maxLen]; omega⟩, h⟩⟩
theorem tidy_ok {c : List Int} {Q : List Int → Bool → Prop} (hf : Fits c) (hi : ∀ x ∈ c, I64 (-x)) (h : Q (tidyF c) (!(tidyF c).any fun l => decide (-l ∈ tidyF c))) : V_tidy c Q := by
  refine CloneI_ok hf ⟨by unfold Fits at hf; omega, ?_⟩
  show (∃ r, _)
  exact ⟨(tidyF c).any fun l => decide (-l ∈ tidyF c), ContainsFuncI_ok (fun l => decide (-l ∈ tidyF c)) (fun x hx K hK => ⟨hi x (mem_tidyF.1 hx), ContainsI_ok hK⟩) rfl, h⟩
theorem lits_neg {n : Int} {c : List Int} (hn : okN n) (h : litsOk n c = true) : ∀ x ∈ c, I64 (-x) := fun x hx => (lit_av hn (mem_lits h hx)).2.2.2
/-- The first clause alike is struck. -/
def goneF (l : List (List Int)) (c : List Int) : List (List Int) := l.eraseP fun a => alikeF a c
theorem eraseP_at {α : Type} [Inhabited α] {p : α → Bool} : ∀ {l : List α} {i : Int}, 0 ≤ i → i < l.length → p (ix l i) = true → (∀ x ∈ l.take i.toNat, p x = false) → l.eraseP p = l.take i.toNat ++ l.drop (i + 1).toNat := by
  intro l i h0 h1 h2 h3
  have e : l = l.take i.toNat ++ ix l i :: l.drop (i + 1).toNat := by rw [← drop_ix h0 h1, List.take_append_drop]
  conv => lhs; rw [e]
  rw [List.eraseP_append_right _ (fun x hx => by simp [h3 x hx]), List.eraseP_cons_of_pos h2]
theorem gone_ok {l : List (List Int)} {c : List Int} {Q : List (List Int) → Prop} (hf : l.length ≤ 5864062014805) (h : Q (goneF l c)) : V_gone l c Q := by
  refine ⟨fun i => 0 ≤ i ∧ i ≤ l.length ∧ ∀ x ∈ l.take i.toNat, alikeF x c = false, fun i => (l.length - i).toNat, ⟨by omega, by omega, by simp⟩, ?_⟩
  rintro i ⟨g0, g1, g2⟩ hl
  refine ⟨fun hlt => ⟨⟨g0, hlt⟩, refAlike_ok ⟨fun hb => ⟨⟨g0, g1⟩, ?_, i64_succ hl g0 hlt, ⟨by omega, by omega⟩, ?_, ?_⟩, fun hb => ⟨i64_succ hl g0 hlt, ⟨by omega, by omega, ?_⟩, by dsimp only; omega⟩⟩⟩, fun hge => ?_⟩
  · constructor
    · simp; omega
    · simp [maxLen]; omega
  · constructor
    · simp; omega
    · simp [maxLen]; omega
  · rw [goneF, eraseP_at g0 hlt hb g2] at h; exact h
  · rw [take_ix g0 hlt]
    intro x hx
    rcases List.mem_append.1 hx with hx | hx
    · exact g2 x hx
    · rw [List.mem_singleton.1 hx]; exact hb
  · rw [List.take_of_length_le (by omega)] at g2
    rw [goneF, List.eraseP_of_forall_not (fun x hx => by simp [g2 x hx])] at h; exact h
/-! ### Lines -/
def neg (c : List Int) : List Int := c.map (-·)
/-- The document's way through the lines. -/
def showGo (n : Int) : List (List Int) → Bool → List (Bool × List Int) → Bool
  | _, shown, [] => shown
  | l, shown, (g, c) :: ps => if g then showGo n (goneF l c) shown ps else if (followF n l (neg c)).isSome then false else showGo n (l ++ [c]) (shown || decide (c = [])) ps
def allOk (n : Int) (ps : List (Bool × List Int)) : Bool := ps.all fun p => litsOk n p.2
def showF (n : Int) (cs : List (List Int)) (ps : List (Bool × List Int)) : Bool := if faultOf n cs ≠ 0 then false else allOk n ps && showGo n cs false ps
theorem neg_lits {n : Int} {c : List Int} (h : litsOk n c = true) : litsOk n (neg c) = true := by
  unfold litsOk neg at *
  rw [List.all_map]
  rw [List.all_eq_true] at *
  intro x hx
  have := h x hx
  simp only [Function.comp]
  rw [isLit_iff] at *
  omega
theorem goneF_all {n : Int} {l : List (List Int)} (c : List Int) (h : l.all (litsOk n) = true) : (goneF l c).all (litsOk n) = true := by
  rw [List.all_eq_true] at *
  exact fun x hx => h x (List.mem_of_mem_eraseP hx)
theorem goneF_length (l : List (List Int)) (c : List Int) : (goneF l c).length ≤ l.length := List.length_eraseP_le
/-- The lines fit. -/
def FitsP (ps : List (Bool × List Int)) : Prop := ps.length ≤ 4398046511104 ∧ ∀ p ∈ ps, Fits p.2
theorem fault_zero {n : Int} {cs : List (List Int)} (h : faultOf n cs = 0) : okN n ∧ cs.length ≤ 33554432 ∧ cs.all (litsOk n) = true := by
  unfold faultOf at h
  split at h
  · omega
  · split at h
    · omega
    · split at h
      · exact ⟨⟨by omega, by omega⟩, by omega, by assumption⟩
      · omega
theorem neg_loop {n : Int} {c : List Int} {K : List Int → Prop} (hn : okN n) (hc : litsOk n c = true) (hf : Fits c) (h : K (neg c)) {i : Int} {out : List Int} (g0 : 0 ≤ i) (g1 : i ≤ c.length) (g2 : out = neg (c.take i.toNat)) :
    (i < c.length → I64 (-(ix c i)) ∧ Room (out.length + [-(ix c i)].length) 8 ∧ out ++ [-(ix c i)] = neg (c.take (i + 1).toNat)) ∧ (¬ i < c.length → K out) := by
  refine ⟨fun hlt => ⟨lits_neg hn hc _ (ix_mem g0 hlt), ?_, ?_⟩, fun hge => ?_⟩
  · have hol : out.length ≤ i.toNat := by rw [g2, neg, List.length_map, List.length_take]; omega
    unfold Fits at hf
    constructor
    · simp; omega
    · simp [maxLen]; omega
  · rw [take_ix g0 hlt, g2]; simp [neg]
  · rw [List.take_of_length_le (by omega)] at g2
    rw [g2]; exact h
theorem refChecked_ok {n : Int} {cs : List (List Int)} {ps : List (Bool × List Int)} {Q : Bool → Prop} (hf : FitsP ps) (h : Q (showF n cs ps)) : V_refChecked n cs ps Q := by
  refine Fault_ok ⟨fun h0 => by rw [showF, if_pos h0] at h; exact h, fun h0 => ?_⟩
  simp only [ne_eq, Decidable.not_not] at h0
  rw [showF, if_neg (by simp [h0])] at h
  obtain ⟨hn, hcl, hca⟩ := fault_zero h0
  refine ⟨fun i => 0 ≤ i ∧ i ≤ ps.length ∧ allOk n ps = allOk n (ps.drop i.toNat), fun i => (ps.length - i).toNat, ⟨by omega, by omega, by simp⟩, ?_⟩
  rintro i ⟨g0, g1, g2⟩ hl
  refine ⟨fun hlt => ⟨⟨g0, hlt⟩, refLiterals_ok ?_⟩, fun hge => ?_⟩
  · rw [drop_ix g0 hlt, allOk, allOk, List.all_cons] at g2
    rw [litsW_eq hn]
    refine ⟨fun hb => ?_, fun hb => ⟨i64_succ hl g0 hlt, ⟨by omega, by omega, ?_⟩, by dsimp only; omega⟩⟩
    · simp only [Bool.not_eq_true'] at hb
      rw [hb, Bool.false_and] at g2
      rw [show allOk n ps = false from g2] at h; exact h
    · simp only [Bool.not_eq_false'] at hb
      rw [hb, Bool.true_and] at g2; exact g2
  · rw [drop_end g0 hge] at g2
    rw [show allOk n ps = true from g2, Bool.true_and] at h
    have hall : ∀ p ∈ ps, litsOk n p.2 = true := List.all_eq_true.1 g2
    clear g2 g0 g1 hge
    refine ⟨⟨by simp; omega, by simp [maxLen]; omega⟩, ?_⟩
    refine ⟨fun s => 0 ≤ s.2.2 ∧ s.2.2 ≤ ps.length ∧ s.1.all (litsOk n) = true ∧ s.1.length ≤ 33554432 + s.2.2.toNat ∧ showGo n cs false ps = showGo n s.1 s.2.1 (ps.drop s.2.2.toNat), fun s => (ps.length - s.2.2).toNat, ⟨by simp, by simp, hca, by simp; omega, by simp⟩, ?_⟩
    rintro ⟨l, shown, i⟩ ⟨g0, g1, hla, hll, g2⟩ hl
    simp only at g0 g1 hla hll g2
    refine ⟨fun hlt => ?_, fun hge => ?_⟩
    · have hpm := ix_mem g0 hlt
      have hpl := hall _ hpm
      have hpf := hf.2 _ hpm
      rw [drop_ix g0 hlt] at g2
      generalize hp : ix ps i = p at *
      obtain ⟨g, c⟩ := p
      simp only at hpl hpf
      rw [showGo] at g2
      refine ⟨fun s => s.1.all (litsOk n) = true ∧ s.1.length ≤ 33554432 + (i + 1).toNat ∧ showGo n cs false ps = showGo n s.1 s.2 (ps.drop (i + 1).toNat), ?_, ⟨g0, hlt⟩, ⟨g0, hlt⟩, fun hg => ?_, fun hg => ?_⟩
      · rintro ⟨l', s'⟩ ⟨j1, j2, j3⟩
        exact ⟨i64_succ hl g0 hlt, ⟨by dsimp only; omega, by dsimp only; omega, j1, j2, j3⟩, by dsimp only; omega⟩
      · simp only at hg
        rw [if_pos hg] at g2
        have := hf.1
        refine gone_ok (by omega) ⟨goneF_all c hla, ?_, g2⟩
        have := goneF_length l c
        dsimp only; omega
      · simp only at hg
        rw [hg, if_neg (by simp)] at g2
        refine ⟨fun s => 0 ≤ s.2 ∧ s.2 ≤ c.length ∧ s.1 = neg (c.take s.2.toNat), fun s => (c.length - s.2).toNat, ⟨by simp, by simp, by simp [neg]⟩, ?_⟩
        rintro ⟨out, k⟩ ⟨k0, k1, k2⟩ hlc
        simp only at k0 k1 k2
        obtain ⟨n1, n2⟩ := neg_loop (K := fun o => o = neg c) hn hpl hpf rfl k0 k1 k2
        refine ⟨fun hlt2 => ⟨⟨k0, hlt2⟩, fun _ => ?_⟩, fun hge2 => ?_⟩
        · replace hlt2 : k < (c.length : Int) := hlt2
          obtain ⟨m1, m2, m3⟩ := n1 hlt2
          exact ⟨m1, m2, i64_succ hlc k0 hlt2, ⟨by dsimp only; omega, by dsimp only; omega, m3⟩, by dsimp only; omega⟩
        · have ho := n2 hge2
          subst ho
          refine refFollow_ok hn hla (neg_lits hpl) ?_
          cases hfo : followF n l (neg c) with
          | some v =>
            rw [hfo] at g2
            refine ⟨fun _ => ?_, fun h => by cases h⟩
            simp only [Option.isSome_some, if_true] at g2
            rw [g2] at h; exact h
          | none =>
            rw [hfo] at g2
            simp only [Option.isSome_none, Bool.false_eq_true, if_false] at g2
            refine ⟨fun h => by (cases h), fun _ => ⟨?_, fun _ => ⟨?_, ?_, ?_⟩⟩⟩
            · have := hf.1
              constructor
              · simp; omega
              · simp [maxLen]; omega
            · simp [hla, hpl]
            · simp; omega
            · rw [g2]
              have e : (shown || decide (c = [])) = decide (shown = true ∨ (c.length : Int) = 0) := by
                cases shown <;> cases c <;> simp
                omega
              rw [e]
    · rw [drop_end g0 hge, showGo] at g2
      rw [g2] at h; exact h
end Go.Vc
set_option linter.unusedVariables false
namespace Go.Vc
theorem wrong_fault {n : Int} {cs : List (List Int)} : (wrongOf n cs [] ≠ none ↔ faultOf n cs ≠ 0) := by
  unfold wrongOf faultOf
  by_cases h1 : n < 0 ∨ 16777216 < n
  · rw [if_pos h1, if_pos h1]; simp
  · rw [if_neg h1, if_neg h1]
    by_cases h2 : 33554432 < (cs.length : Int)
    · rw [if_pos h2, if_pos h2]; simp
    · rw [if_neg h2, if_neg h2]
      have : litsOk n [] = true := rfl
      rw [this, Bool.and_true]
      by_cases h3 : cs.all (litsOk n) = true
      · rw [if_pos h3, if_pos h3]; simp
      · rw [if_neg h3, if_neg h3]; simp
theorem answer_of {β : Type} {f : List Int → β} {z : β} {Q : β → Bool → Prop} {r : Option (List Int)} (h1 : ∀ v, r = some v → Q (f v) true) (h2 : r = none → Q z false) : answer f z Q r := by
  cases r with
  | none => exact h2 rfl
  | some v => exact h1 v rfl
/-! ### What is shown is so -/
def makesLit (m : List Bool) (l : Int) : Bool := decide (0 < absv l ∧ absv l ≤ m.length) && (ix m (absv l - 1) == decide (0 < l))
def makesF (m : List Bool) (c : List Int) : Bool := c.any (makesLit m)
def modelsF (m : List Bool) (cs : List (List Int)) : Bool := cs.all (makesF m)
theorem absv_I64 {l : Int} (h : I64 l) : I64 (absv l) := by
  unfold absv; split
  · exact wneg_I64 _ h
  · exact h
theorem Makes_ok {c : List Int} {m : List Bool} {Q : Bool → Prop} (h : Q (makesF m c)) : V_Makes c m Q := by
  refine ⟨fun i => 0 ≤ i ∧ i ≤ c.length ∧ makesF m c = makesF m (c.drop i.toNat), fun i => (c.length - i).toNat, ⟨by omega, by omega, by simp⟩, ?_⟩
  rintro i ⟨g0, g1, g2⟩ hl
  refine ⟨fun hlt => ⟨⟨g0, hlt⟩, fun hi => size_ok ?_⟩, fun hge => ?_⟩
  · rw [drop_ix g0 hlt] at g2
    have g3 : makesF m c = (makesLit m (ix c i) || makesF m (c.drop (i + 1).toNat)) := g2
    clear g2
    have hai := absv_I64 hi
    generalize ix c i = x at *
    refine ⟨fun b => b = makesLit m x, ?_, fun hp => fun hlm => ⟨fun hle => ⟨by unfold I64 at *; omega, ⟨by omega, by omega⟩, ⟨g0, hlt⟩, fun _ => ?_⟩, fun hle => ?_⟩, fun hp => ?_⟩
    · rintro b rfl
      refine ⟨fun hb => ?_, fun hb => ⟨i64_succ hl g0 hlt, ⟨by omega, by omega, ?_⟩, by dsimp only; omega⟩⟩
      · rw [hb, Bool.true_or] at g3; rw [g3] at h; exact h
      · rw [hb, Bool.false_or] at g3; exact g3
    · simp [makesLit, hp, hle]
    · simp [makesLit, hle]
    · simp [makesLit, hp]
  · rw [drop_end g0 hge] at g2; rw [g2] at h; exact h
theorem Models_ok {cs : List (List Int)} {m : List Bool} {Q : Bool → Prop} (h : Q (modelsF m cs)) : V_Models cs m Q := by
  refine ⟨fun i => 0 ≤ i ∧ i ≤ cs.length ∧ modelsF m cs = modelsF m (cs.drop i.toNat), fun i => (cs.length - i).toNat, ⟨by omega, by omega, by simp⟩, ?_⟩
  rintro i ⟨g0, g1, g2⟩ hl
  refine ⟨fun hlt => ⟨⟨g0, hlt⟩, Makes_ok ⟨fun hb => ?_, fun hb => ⟨i64_succ hl g0 hlt, ⟨by omega, by omega, ?_⟩, by dsimp only; omega⟩⟩⟩, fun hge => ?_⟩
  · rw [drop_ix g0 hlt] at g2
    have g3 : modelsF m cs = (makesF m (ix cs i) && modelsF m (cs.drop (i + 1).toNat)) := g2
    simp only [Bool.not_eq_true'] at hb
    rw [hb, Bool.false_and] at g3; rw [g3] at h; exact h
  · rw [drop_ix g0 hlt] at g2
    have g3 : modelsF m cs = (makesF m (ix cs i) && modelsF m (cs.drop (i + 1).toNat)) := g2
    simp only [Bool.not_eq_false'] at hb
    rw [hb, Bool.true_and] at g3; exact g3
  · rw [drop_end g0 hge] at g2; rw [g2] at h; exact h
section sound
variable {n : Int} {m : List Bool}
theorem makes_lit (hn : okN n) (hm : (m.length : Int) = n) {l : Int} (hl : isLit n l = true) : makesLit m l = (ix m (av l - 1) == decide (0 < l)) := by
  obtain ⟨h1, h2, h3, h4⟩ := lit_av hn hl
  unfold makesLit
  rw [lit_abs hn hl]
  simp only [hm, h2, and_true, show (0 : Int) < av l by omega, decide_true, Bool.true_and]
theorem lit_neg {l : Int} (hl : isLit n l = true) : isLit n (-l) = true := by rw [isLit_iff] at *; omega
theorem makes_neg (hn : okN n) (hm : (m.length : Int) = n) {l : Int} (hl : isLit n l = true) : makesLit m (-l) = !makesLit m l := by
  rw [makes_lit hn hm hl, makes_lit hn hm (lit_neg hl)]
  rw [isLit_iff] at hl
  have e : av (-l) = av l := by unfold av; omega
  rw [e]
  by_cases hp : 0 < l
  · have : ¬ (0 < -l) := by omega
    rw [decide_eq_true hp, decide_eq_false this]; cases ix m (av l - 1) <;> rfl
  · have : 0 < -l := by omega
    rw [decide_eq_true this, decide_eq_false hp]; cases ix m (av l - 1) <;> rfl
def Agree (n : Int) (m : List Bool) (val : List Int) : Prop := ∀ l, isLit n l = true → valOf val l = 1 → makesLit m l = true
theorem valOf_neg {l : Int} (val : List Int) (h : l ≠ 0) : valOf val (-l) = -valOf val l := by
  have e : av (-l) = av l := by unfold av; omega
  unfold valOf
  rw [e]
  by_cases hp : l < 0
  · rw [if_neg (by omega), if_pos hp]; omega
  · rw [if_pos (by omega), if_neg hp]
theorem Agree.not (hn : okN n) (hm : (m.length : Int) = n) {val : List Int} (h : Agree n m val) {l : Int} (hl : isLit n l = true) (hv : valOf val l = -1) : makesLit m l = false := by
  have h1 := h (-l) (lit_neg hl) (by rw [valOf_neg val (by rw [isLit_iff] at hl; omega), hv]; rfl)
  rw [makes_neg hn hm hl] at h1
  simpa using h1
theorem valOf_set (hn : okN n) {val : List Int} (hv : Vals n val) {l x : Int} (hl : isLit n l = true) (hx : isLit n x = true) (h : valOf (setv val l) x = 1) : x = l ∨ valOf val x = 1 := by
  obtain ⟨h1, h2, _, _⟩ := lit_av hn hl
  obtain ⟨k1, k2, _, _⟩ := lit_av hn hx
  have hin := hv.in hn hl
  by_cases he : av x = av l
  · have e : ix (setv val l) (av x) = sgn l := by
      rw [he]
      unfold ix setv
      have : (av l).toNat < val.length := by unfold In at hin; omega
      simp [this]
    unfold valOf at h
    rw [e] at h
    left
    unfold sgn at h
    unfold av at he
    rw [isLit_iff] at hl hx
    split at h <;> split at h <;> omega
  · have e : ix (setv val l) (av x) = ix val (av x) := by
      unfold ix setv
      rw [List.getD_eq_getElem?_getD, List.getD_eq_getElem?_getD, List.getElem?_set_ne (by omega)]
    right
    unfold valOf at h ⊢
    rw [e] at h; exact h
theorem Agree.set (hn : okN n) {val : List Int} (hv : Vals n val) (h : Agree n m val) {l : Int} (hl : isLit n l = true) (ht : makesLit m l = true) : Agree n m (setv val l) := fun x hx hp => by
  rcases valOf_set hn hv hl hx hp with rfl | hp
  · exact ht
  · exact h x hx hp
theorem unit_agree (hn : okN n) (hm : (m.length : Int) = n) {val : List Int} (hv : Vals n val) (ha : Agree n m val) : ∀ (c : List Int) (o : Int), litsOk n c = true → ((o ≠ 0 ∧ makesLit m o = true) ∨ ∃ l ∈ c, makesLit m l = true) →
    (unitGo val o c).2 ≠ 0 ∧ ((unitGo val o c).2 = 1 → makesLit m (unitGo val o c).1 = true)
  | [], o, _, h => by
    rcases h with ⟨h1, h2⟩ | ⟨l, hl, _⟩
    · unfold unitGo; rw [if_neg h1]; exact ⟨by simp, fun _ => h2⟩
    · cases hl
  | l :: ls, o, hc, h => by
    have hc' : isLit n l = true ∧ litsOk n ls = true := by simpa [litsOk] using hc
    unfold unitGo
    split
    · exact ⟨by simp, fun h => by simp at h⟩
    · rename_i hp
      split
      · exact ⟨by simp, fun h => by simp at h⟩
      · rename_i hd
        split
        · rename_i hz
          refine unit_agree hn hm hv ha ls l hc'.2 ?_
          have hl0 : l ≠ 0 := by have := isLit_iff.1 hc'.1; omega
          rcases h with ⟨h1, h2⟩ | ⟨x, hx, h2⟩
          · by_cases e : l = o
            · exact .inl ⟨hl0, e ▸ h2⟩
            · exact absurd ⟨hz, h1, e⟩ hd
          · rcases List.mem_cons.1 hx with rfl | hx
            · exact .inl ⟨hl0, h2⟩
            · exact .inr ⟨x, hx, h2⟩
        · rename_i hz
          have hneg : valOf val l = -1 := by have := hv.of l; omega
          have hf := ha.not hn hm hc'.1 hneg
          refine unit_agree hn hm hv ha ls o hc'.2 ?_
          rcases h with h | ⟨x, hx, h2⟩
          · exact .inl h
          · rcases List.mem_cons.1 hx with rfl | hx
            · rw [hf] at h2; cases h2
            · exact .inr ⟨x, hx, h2⟩
theorem pass_agree (hn : okN n) (hm : (m.length : Int) = n) : ∀ {cs : List (List Int)} {val : List Int} {more : Bool}, Vals n val → Agree n m val → cs.all (litsOk n) = true → modelsF m cs = true →
    ∃ v' m', passF cs val more = some (v', m') ∧ Agree n m v'
  | [], val, more, hv, ha, _, _ => ⟨val, more, rfl, ha⟩
  | c :: cs, val, more, hv, ha, hc, hs => by
    rw [List.all_cons, Bool.and_eq_true] at hc
    have hs' : makesF m c = true ∧ modelsF m cs = true := by simpa [modelsF] using hs
    have hex : ∃ l ∈ c, makesLit m l = true := by simpa [makesF] using hs'.1
    obtain ⟨h0, h1⟩ := unit_agree hn hm hv ha c 0 hc.1 (.inr hex)
    unfold passF
    rw [if_neg h0]
    split
    · rename_i hone
      obtain ⟨h2, h3⟩ := unit_one hone
      exact pass_agree hn hm hv.set (ha.set hn hv (mem_lits hc.1 h2) (h1 hone)) hc.2 hs'.2
    · exact pass_agree hn hm hv ha hc.2 hs'.2
theorem propag_agree (hn : okN n) (hm : (m.length : Int) = n) {cs : List (List Int)} (hc : cs.all (litsOk n) = true) (hs : modelsF m cs = true) : ∀ (k : Nat) (val : List Int), Vals n val → Agree n m val → zeros val < k → propag cs k val ≠ none
  | 0, _, _, _, h => by omega
  | k + 1, val, hv, ha, h => by
    obtain ⟨v', m', h1, h2⟩ := pass_agree (more := false) hn hm hv ha hc hs
    obtain ⟨g1, g2, g3⟩ := pass_ok hn hv hc h1
    unfold propag
    rw [h1]
    cases m' with
    | false => simp
    | true =>
      rcases g3 rfl with g3 | g3
      · cases g3
      · exact propag_agree hn hm hc hs k v' g1 h2 (by omega)
theorem setAll_agree (hn : okN n) (hm : (m.length : Int) = n) : ∀ (ls : List Int) (val : List Int), Vals n val → Agree n m val → litsOk n ls = true → (∀ l ∈ ls, makesLit m l = true) → ∃ v, setAll ls val = some v ∧ Vals n v ∧ Agree n m v
  | [], val, hv, ha, _, _ => ⟨val, rfl, hv, ha⟩
  | l :: ls, val, hv, ha, hl, ht => by
    have hl' : isLit n l = true ∧ litsOk n ls = true := by simpa [litsOk] using hl
    unfold setAll
    split
    · rename_i hc
      have := ha.not hn hm hl'.1 hc
      rw [ht l (by simp)] at this; cases this
    · exact setAll_agree hn hm ls _ hv.set (ha.set hn hv hl'.1 (ht l (by simp))) hl'.2 fun x hx => ht x (by simp [hx])
theorem start_agree (n : Int) (m : List Bool) : Agree n m (start n) := fun l _ h => by
  have : ix (start n) (av l) = 0 := by
    unfold ix start
    rw [List.getD_eq_getElem?_getD, List.getElem?_replicate]
    split <;> rfl
  unfold valOf at h
  rw [this] at h
  split at h <;> omega
theorem follow_agree (hn : okN n) (hm : (m.length : Int) = n) {cs : List (List Int)} {given : List Int} (hc : cs.all (litsOk n) = true) (hs : modelsF m cs = true) (hg : litsOk n given = true) (ht : ∀ l ∈ given, makesLit m l = true) : followF n cs given ≠ none := by
  obtain ⟨v, h1, h2, h3⟩ := setAll_agree hn hm given (start n) (start_vals n) (start_agree n m) hg ht
  unfold followF
  rw [h1, Option.bind_some]
  exact propag_agree hn hm hc hs _ v h2 h3 (zeros_le hn h2)
theorem show_sound (hn : okN n) (hm : (m.length : Int) = n) : ∀ (ps : List (Bool × List Int)) (l : List (List Int)), allOk n ps = true → l.all (litsOk n) = true → modelsF m l = true → showGo n l false ps = false
  | [], l, _, _, _ => rfl
  | (g, c) :: ps, l, hp, hl, hs => by
    have hp' : litsOk n c = true ∧ allOk n ps = true := by simpa [allOk] using hp
    unfold showGo
    split
    · refine show_sound hn hm ps _ hp'.2 (goneF_all c hl) ?_
      unfold modelsF at *
      rw [List.all_eq_true] at *
      exact fun x hx => hs x (List.mem_of_mem_eraseP hx)
    · split
      · rfl
      · rename_i hf
        have hnone : followF n l (neg c) = none := by
          cases he : followF n l (neg c) with
          | none => rfl
          | some v => rw [he] at hf; simp at hf
        have hmk : makesF m c = true := by
          by_cases h : makesF m c = true
          · exact h
          · refine absurd hnone (follow_agree hn hm hl hs (neg_lits hp'.1) fun x hx => ?_)
            obtain ⟨y, hy, rfl⟩ := List.mem_map.1 hx
            rw [makes_neg hn hm (mem_lits hp'.1 hy)]
            have : makesLit m y = false := by
              simp only [makesF, Bool.not_eq_true, List.any_eq_false] at h
              simpa using h y hy
            rw [this]; rfl
        have hne : c ≠ [] := by rintro rfl; simp [makesF] at hmk
        have : (false || decide (c = [])) = false := by simp [hne]
        rw [this]
        refine show_sound hn hm ps _ hp'.2 (by simp [hl, hp'.1]) ?_
        unfold modelsF at *
        simp [hs, hmk]
theorem shown_none {cs : List (List Int)} {ps : List (Bool × List Int)} (hm : (m.length : Int) = n) (h : showF n cs ps = true) : modelsF m cs = false := by
  unfold showF at h
  split at h
  · cases h
  · rename_i hf
    simp only [ne_eq, Decidable.not_not] at hf
    obtain ⟨hn, _, hca⟩ := fault_zero hf
    rw [Bool.and_eq_true] at h
    cases hs : modelsF m cs with
    | false => rfl
    | true => rw [show_sound hn hm ps cs h.1 hca hs] at h; cases h.2
end sound
/-! ### As the arguments come -/
theorem fitsL_of {cs : List (List Int)} (h : cs.length * 24 ≤ reachBytes ∧ ∀ y ∈ cs, y.length * 8 ≤ reachBytes ∧ ∀ x ∈ y, True) : FitsL cs := by
  simp only [reachBytes] at h
  exact ⟨by omega, fun c hc => by have := (h.2 c hc).1; unfold Fits; omega⟩
theorem fitsP_of {ps : List (Bool × List Int)} (h : ps.length * 32 ≤ reachBytes ∧ ∀ y ∈ ps, True ∧ (y.2.length * 8 ≤ reachBytes ∧ ∀ x ∈ y.2, True)) : FitsP ps := by
  simp only [reachBytes] at h
  exact ⟨by omega, fun c hc => by have := (h.2 c hc).2.1; unfold Fits; omega⟩
end Go.Vc
set_option linter.unusedVariables false
namespace Go.Vc
theorem wrong_none {n : Int} {cs : List (List Int)} {g : List Int} (h : wrongOf n cs g = none) : okN n ∧ cs.length ≤ 33554432 ∧ cs.all (litsOk n) = true ∧ litsOk n g = true := by
  unfold wrongOf at h
  split at h
  · cases h
  · split at h
    · cases h
    · split at h
      · rename_i h1 h2 h3
        rw [Bool.and_eq_true] at h3
        exact ⟨⟨by omega, by omega⟩, by omega, h3.1, h3.2⟩
      · cases h
/-- What the document says is wrong. -/
def faultAll (n : Int) (cs : List (List Int)) (g : List Int) : Int := if faultOf n cs = 0 ∧ (!litsW n g) = true then 5 else faultOf n cs
theorem fault_wrong (n : Int) (cs : List (List Int)) (g : List Int) : (wrongOf n cs g).getD 0 = faultAll n cs g := by
  unfold wrongOf faultAll faultOf
  by_cases h1 : n < 0 ∨ 16777216 < n
  · simp [h1]
  · rw [if_neg h1]
    simp only [if_neg h1]
    by_cases h2 : 33554432 < (cs.length : Int)
    · simp [h2]
    · rw [if_neg h2]
      simp only [if_neg h2]
      have hn : okN n := ⟨by omega, by omega⟩
      rw [litsW_eq hn]
      by_cases h3 : cs.all (litsOk n) = true
      · simp only [h3, if_true, Bool.true_and]
        cases litsOk n g <;> simp
      · simp only [Bool.not_eq_true] at h3
        simp [h3]
theorem wrong_I64 {n m : Int} {cs : List (List Int)} {g : List Int} (h : wrongOf n cs g = some m) : I64 m ∧ m ≠ 0 := by
  unfold wrongOf at h
  unfold I64
  split at h
  · cases h; omega
  · split at h
    · cases h; omega
    · split at h
      · cases h
      · cases h; omega
theorem lawLiterals_ok {n : Int} {c : List Int} {Q : Bool → Prop} (h : Q (litsW n c)) : V_lawLiterals n c Q := by
  refine ⟨fun i => 0 ≤ i ∧ i ≤ c.length ∧ litsW n c = litsW n (c.drop i.toNat), fun i => (c.length - i).toNat, ⟨by omega, by omega, by simp⟩, ?_⟩
  rintro i ⟨h0, h1, h2⟩ hl
  refine ⟨fun hlt => ⟨⟨h0, hlt⟩, fun _ => ?_⟩, fun hge => ?_⟩
  · rw [drop_ix h0 hlt, litsW_cons] at h2
    refine Literal_ok ⟨fun hb => ?_, fun hb => ⟨i64_succ hl h0 hlt, ⟨by omega, by omega, ?_⟩, by dsimp only; omega⟩⟩
    · simp only [Bool.not_eq_true'] at hb
      rw [hb, Bool.false_and] at h2; rw [h2] at h; exact h
    · simp only [Bool.not_eq_false'] at hb
      rw [hb, Bool.true_and] at h2; exact h2
  · rw [drop_end h0 hge] at h2; rw [h2] at h; exact h
theorem Told_ok {e : Option Int} {Q : Int → Prop} (hi : ∀ n, e = some n → I64 n) (h : Q (e.getD 0)) : V_Told e Q := by
  refine ⟨fun h0 => by rw [h0] at h; exact h, fun h0 => ⟨fun h1 => absurd h1 h0, fun n hn => ⟨hi n hn, fun _ => by rw [hn] at h; exact h, fun h => by cases h⟩⟩⟩
theorem Error_ok {e : Option Int} {f : Int} {Q : Bool → Prop} (hi : ∀ n, e = some n → I64 n) (h : Q (decide (e.getD 0 = f))) : V_Error e f Q := Told_ok hi h
theorem followF_vals {n : Int} {cs : List (List Int)} {g v : List Int} (hn : okN n) (hc : cs.all (litsOk n) = true) (h : followF n cs g = some v) : Vals n v := by
  unfold followF at h
  obtain ⟨u, h1, h2⟩ := Option.bind_eq_some_iff.1 h
  have hu := setAll_vals (start_vals n) h1
  clear h h1
  generalize n.toNat + 2 = k at h2
  induction k generalizing u with
  | zero => cases h2
  | succ k ih =>
    unfold propag at h2
    cases hp : passF cs u false with
    | none => rw [hp] at h2; cases h2
    | some r =>
      obtain ⟨u', m⟩ := r
      rw [hp] at h2
      have hu' := (pass_ok hn hu hc hp).1
      cases m with
      | true => exact ih u' hu' h2
      | false => cases h2; exact hu'
end Go.Vc
