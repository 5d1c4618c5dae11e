/- The plain part of SatProofs, SatShown: lines that show. No program in sight. -/
import Derived.Test.YtdflojjpjklbfaaPlainS2
import Derived.Test.YtdflojjpjklbfaaRow
set_option linter.unusedVariables false
namespace Go.Vc
theorem Ints_ok {a b : List Int} {Q : Bool → Prop} (h : Q (decide (a = b))) : V_sameInts a b Q := by
  intro ha hb
  refine ⟨fun hne => ?_, fun heq => ?_⟩
  · have : a ≠ b := by rintro rfl; exact hne rfl
    simpa [this] using h
  · have heq' : a.length = b.length := by omega
    refine ⟨fun i => 0 ≤ i ∧ i ≤ a.length ∧ (a = b ↔ a.drop i.toNat = b.drop i.toNat), fun i => (a.length - i).toNat, ⟨by omega, by omega, by simp⟩, ?_⟩
    rintro i ⟨g0, g1, g2⟩ _
    refine ⟨fun hlt => ⟨⟨g0, hlt⟩, fun _ => ⟨⟨g0, by omega⟩, fun _ => ?_⟩⟩, fun hge => ?_⟩
    · rw [drop_ix g0 hlt, drop_ix (xs := b) g0 (by omega), List.cons.injEq] at g2
      refine ⟨fun hx => ?_, fun hx => ⟨i64_succ ha g0 hlt, ⟨by omega, by omega, ?_⟩, by dsimp only; omega⟩⟩
      · have : a ≠ b := fun e => hx (g2.1 e).1
        simpa [this] using h
      · simp only [ne_eq, Decidable.not_not] at hx
        exact g2.trans ⟨fun h => h.2, fun h => ⟨hx, h⟩⟩
    · rw [drop_end g0 hge, drop_end (xs := b) g0 (by omega)] at g2
      have : a = b := g2.2 rfl
      simpa [this] using h
theorem EqualI_ok {a b : List Int} {Q : Bool → Prop} (h : Q (decide (a = b))) : V_EqualI a b Q := by
  intro ha hb
  refine ⟨fun hne => ?_, fun heq _ => ?_⟩
  · have : a ≠ b := by rintro rfl; exact hne rfl
    simpa [this] using h
  · have heq' : a.length = b.length := by omega
    refine ⟨fun i => 0 ≤ i ∧ i ≤ a.length ∧ (a = b ↔ a.drop i.toNat = b.drop i.toNat), fun i => (a.length - i).toNat, ⟨by omega, by omega, by simp⟩, ?_⟩
    rintro i ⟨g0, g1, g2⟩
    refine ⟨fun hlt => ⟨⟨g0, hlt⟩, fun _ => ⟨⟨g0, by omega⟩, fun _ => ?_⟩⟩, fun hge => ?_⟩
    · rw [drop_ix g0 hlt, drop_ix (xs := b) g0 (by omega), List.cons.injEq] at g2
      refine ⟨fun hx => ?_, fun hx => ⟨i64_succ ha g0 hlt, ⟨by omega, by omega, ?_⟩, by dsimp only; omega⟩⟩
      · have : a ≠ b := fun e => hx (g2.1 e).1
        simpa [this] using h
      · simp only [ne_eq, Decidable.not_not] at hx
        exact g2.trans ⟨fun h => h.2, fun h => ⟨hx, h⟩⟩
    · rw [drop_end g0 hge, drop_end (xs := b) g0 (by omega)] at g2
      have : a = b := g2.2 rfl
      simpa [this] using h
theorem sameClauses_ok {a b : List (List Int)} {Q : Bool → Prop} (h : Q (decide (a = b))) : V_sameClauses a b Q := by
  intro ha hb
  refine ⟨fun hne => ?_, fun heq => ?_⟩
  · have : a ≠ b := by rintro rfl; exact hne rfl
    simpa [this] using h
  · have heq' : a.length = b.length := by omega
    refine ⟨fun i => 0 ≤ i ∧ i ≤ a.length ∧ (a = b ↔ a.drop i.toNat = b.drop i.toNat), fun i => (a.length - i).toNat, ⟨by omega, by omega, by simp⟩, ?_⟩
    rintro i ⟨g0, g1, g2⟩ _
    refine ⟨fun hlt => ⟨⟨g0, hlt⟩, ⟨g0, by omega⟩, decide (ix a i = ix b i), Ints_ok rfl, ?_⟩, fun hge => ?_⟩
    · rw [drop_ix g0 hlt, drop_ix (xs := b) g0 (by omega), List.cons.injEq] at g2
      refine ⟨fun hx => ?_, fun hx => ⟨i64_succ ha g0 hlt, ⟨by omega, by omega, ?_⟩, by dsimp only; omega⟩⟩
      · simp only [Bool.not_eq_true', decide_eq_false_iff_not] at hx
        have : a ≠ b := fun e => hx (g2.1 e).1
        simpa [this] using h
      · simp only [Bool.not_eq_false', decide_eq_true_eq] at hx
        exact g2.trans ⟨fun h => h.2, fun h => ⟨hx, h⟩⟩
    · rw [drop_end g0 hge, drop_end (xs := b) g0 (by omega)] at g2
      have : a = b := g2.2 rfl
      simpa [this] using h
/-- Lists that may be copied. -/
def Fits (xs : List Int) : Prop := xs.length ≤ 17592186044416
def FitsL (cs : List (List Int)) : Prop := cs.length ≤ 5864062014805 ∧ ∀ c ∈ cs, Fits c
theorem Fits.room {xs : List Int} (h : Fits xs) (k : Nat) (hk : k ≤ 1) : Room (k + xs.length) 8 ∨ k = 1 := by
  by_cases h0 : k = 1
  · exact .inr h0
  · unfold Fits at h; left; unfold Room maxLen; omega
theorem copied_ok {l : List (List Int)} {Q : List (List Int) → Prop} (hf : FitsL l) (h : Q l) : V_copied l Q := by
  refine ⟨fun s => 0 ≤ s.2 ∧ s.2 ≤ l.length ∧ s.1 = l.take s.2.toNat, fun s => (l.length - s.2).toNat, ⟨by simp, by simp, by simp⟩, ?_⟩
  rintro ⟨out, i⟩ ⟨g0, g1, g2⟩ hl
  simp only at g0 g1 g2
  refine ⟨fun hlt => ⟨⟨g0, hlt⟩, ?_, ?_, i64_succ hl g0 hlt, ⟨by dsimp only; omega, by dsimp only; omega, ?_⟩, by dsimp only; omega⟩, fun hge => ?_⟩
  · have := hf.2 _ (ix_mem g0 hlt)
    unfold Fits at this
    constructor
    · simp; omega
    · simp [maxLen]; omega
  · have := hf.1
    have hol : out.length ≤ i.toNat := by rw [g2, List.length_take]; omega
    constructor
    · simp; omega
    · simp [maxLen]; omega
  · dsimp only; rw [take_ix g0 hlt, g2]
  · have : out = l := by rw [g2, List.take_of_length_le (by omega)]
    rw [this]; exact h
/-! ### Clauses alike -/
def within (a b : List Int) : Bool := a.all fun x => decide (x ∈ b)
def alikeF (a b : List Int) : Bool := within a b && within b a
theorem within_ok {a b : List Int} {Q : Bool → Prop} (h : Q (within a b)) : V_within a b Q := by
  refine ⟨fun i => 0 ≤ i ∧ i ≤ a.length ∧ within a b = within (a.drop i.toNat) b, fun i => (a.length - i).toNat, ⟨by omega, by omega, by simp⟩, ?_⟩
  rintro i ⟨g0, g1, g2⟩ hl
  refine ⟨fun hlt => ?_, fun hge => ?_⟩
  · rw [drop_ix g0 hlt] at g2
    refine ⟨fun s => 0 ≤ s.2 ∧ s.2 ≤ b.length ∧ (ix a i ∈ b ↔ (s.1 = true ∨ ix a i ∈ b.drop s.2.toNat)), fun s => (b.length - s.2).toNat, ⟨by simp, by simp, by simp⟩, ?_⟩
    rintro ⟨t, k⟩ ⟨k0, k1, k2⟩ hl2
    simp only at k0 k1 k2
    refine ⟨fun hlt2 => ?_, fun hge2 => ?_⟩
    · rw [drop_ix k0 hlt2, List.mem_cons] at k2
      refine ⟨fun t' => (ix a i ∈ b ↔ (t' = true ∨ ix a i ∈ b.drop (k + 1).toNat)), fun t' ht => ⟨i64_succ hl2 k0 hlt2, ⟨by dsimp only; omega, by dsimp only; omega, ht⟩, by dsimp only; omega⟩, fun ht => ?_, fun ht => ⟨⟨g0, hlt⟩, fun _ => ⟨⟨k0, hlt2⟩, fun _ => ?_⟩⟩⟩
      · subst ht; exact k2.trans ⟨fun _ => .inl rfl, fun _ => .inl rfl⟩
      · subst ht
        refine k2.trans ⟨fun h => ?_, fun h => ?_⟩
        · rcases h with h | h | h
          · cases h
          · exact .inl (by simpa using h)
          · exact .inr h
        · rcases h with h | h
          · exact .inr (.inl (by simpa using h))
          · exact .inr (.inr h)
    · rw [drop_end k0 hge2] at k2
      refine ⟨fun ht => ?_, fun ht => ⟨i64_succ hl g0 hlt, ⟨by omega, by omega, ?_⟩, by dsimp only; omega⟩⟩
      · simp only [Bool.not_eq_true'] at ht
        have : ix a i ∉ b := fun h => by have := k2.1 h; simp [ht] at this
        have g3 : within a b = (decide (ix a i ∈ b) && within (a.drop (i + 1).toNat) b) := g2
        simp only [this, decide_false, Bool.false_and] at g3
        rw [g3] at h; exact h
      · simp only [Bool.not_eq_false'] at ht
        have : ix a i ∈ b := k2.2 (.inl ht)
        have g3 : within a b = (decide (ix a i ∈ b) && within (a.drop (i + 1).toNat) b) := g2
        simp only [this, decide_true, Bool.true_and] at g3
        exact g3
  · rw [drop_end g0 hge] at g2; rw [g2] at h; exact h
theorem refAlike_ok {a b : List Int} {Q : Bool → Prop} (h : Q (alikeF a b)) : V_refAlike a b Q := by
  refine within_ok (within_ok ?_)
  simpa [alikeF] using h
def tidyF (c : List Int) : List Int := Lib.compact (c.mergeSort fun x y => decide (x ≤ y))
theorem tidyF_strict (c : List Int) : (tidyF c).Pairwise (· < ·) := by
  refine compact_strict ?_
  have := List.pairwise_mergeSort (le := fun x y : Int => decide (x ≤ y)) (fun a b c h1 h2 => by simp at *; omega) (fun a b => by simp; omega) c
  exact this.imp fun h => by simpa using h
theorem mem_tidyF {c : List Int} {x : Int} : x ∈ tidyF c ↔ x ∈ c := by unfold tidyF; rw [mem_compact, List.mem_mergeSort]
theorem alikeF_eq (a b : List Int) : alikeF a b = decide (tidyF a = tidyF b) := by
  rw [Bool.eq_iff_iff]
  simp only [alikeF, within, Bool.and_eq_true, List.all_eq_true, decide_eq_true_eq]
  constructor
  · rintro ⟨h1, h2⟩
    exact strict_ext (tidyF_strict a) (tidyF_strict b) fun x => by rw [mem_tidyF, mem_tidyF]; exact ⟨h1 x, h2 x⟩
  · intro h
    exact ⟨fun x hx => by rw [← mem_tidyF, ← h, mem_tidyF]; exact hx, fun x hx => by rw [← mem_tidyF, h, mem_tidyF]; exact hx⟩
theorem IndexI_any {s : List Int} {v : Int} {Q : Int → Prop} (h : ∀ r, Q r) : V_IndexI s v Q := by
  intro hl
  refine ⟨fun i => 0 ≤ i ∧ i ≤ s.length, fun i => (s.length - i).toNat, ⟨by omega, by omega⟩, ?_⟩
  rintro i ⟨g0, g1⟩
  exact ⟨fun hlt => ⟨⟨g0, hlt⟩, fun _ => ⟨fun _ => h _, fun _ => ⟨i64_succ hl g0 hlt, ⟨by omega, by omega⟩, by dsimp only; omega⟩⟩⟩, fun _ => h _⟩
theorem IndexI_ok {s : List Int} {v : Int} {Q : Int → Prop} (h1 : ∀ i : Int, 0 ≤ i → i < s.length → v ∈ s → Q i) (h2 : v ∉ s → Q (-1)) : V_IndexI s v Q := by
  intro hl
  refine ⟨fun i => 0 ≤ i ∧ i ≤ s.length ∧ ∀ x ∈ s.take i.toNat, x ≠ v, fun i => (s.length - i).toNat, ⟨by omega, by omega, by simp⟩, ?_⟩
  rintro i ⟨g0, g1, g2⟩
  refine ⟨fun hlt => ⟨⟨g0, hlt⟩, fun _ => ⟨fun he => h1 i g0 hlt (he ▸ ix_mem g0 hlt), fun he => ⟨i64_succ hl g0 hlt, ⟨by omega, by omega, ?_⟩, by dsimp only; omega⟩⟩⟩, fun hge => h2 ?_⟩
  · rw [take_ix g0 hlt]
    intro x hx
    rcases List.mem_append.1 hx with hx | hx
    · exact g2 x hx
    · rw [List.mem_singleton.1 hx]; exact fun e => he e.symm
  · rw [List.take_of_length_le (by omega)] at g2
    exact fun h => g2 v h rfl
theorem ContainsI_ok {s : List Int} {v : Int} {Q : Bool → Prop} (h : Q (decide (v ∈ s))) : V_ContainsI s v Q :=
  IndexI_ok (fun i h0 _ hm => by simpa [hm, h0] using h) (fun hm => by simpa [hm] using h)
theorem CloneI_ok {s : List Int} {Q : List Int → Prop} (hf : Fits s) (h : Q s) : V_CloneI s Q := by
  rintro b hb
  unfold Fits at hf
  refine ⟨fun h1 => by rw [hb h1] at h; exact h, fun _ => ⟨⟨by simp; omega, by simp [maxLen]; omega⟩, h⟩⟩
theorem CloneL_ok {s : List (List Int)} {Q : List (List Int) → Prop} (hf : s.length ≤ 5864062014805) (h : Q s) : V_CloneL s Q := by
  rintro b hb
  refine ⟨fun h1 => by rw [hb h1] at h; exact h, fun _ => ⟨⟨by simp; omega, by simp [maxLen]; omega⟩, h⟩⟩
theorem tidy_ok {c : List Int} {Q : List Int → Bool → Prop} (hf : Fits c) (hi : ∀ x ∈ c, I64 (-x)) (h : Q (tidyF c) (!(tidyF c).any fun l => decide (-l ∈ tidyF c))) : V_tidy c Q := by
  refine CloneI_ok hf ⟨by unfold Fits at hf; omega, ?_⟩
  show (∃ r, _)
  exact ⟨(tidyF c).any fun l => decide (-l ∈ tidyF c), ContainsFuncI_ok (fun l => decide (-l ∈ tidyF c)) (fun x hx K hK => ⟨hi x (mem_tidyF.1 hx), ContainsI_ok hK⟩) rfl, h⟩
theorem alike_ok {a b : List Int} {Q : Bool → Prop} (ha : Fits a) (hb : Fits b) (hai : ∀ x ∈ a, I64 (-x)) (hbi : ∀ x ∈ b, I64 (-x)) (h : Q (alikeF a b)) : V_alike a b Q := by
  refine tidy_ok ha hai (tidy_ok hb hbi (EqualI_ok ?_))
  rw [← alikeF_eq]; exact h
theorem lits_neg {n : Int} {c : List Int} (hn : okN n) (h : litsOk n c = true) : ∀ x ∈ c, I64 (-x) := fun x hx => (lit_av hn (mem_lits h hx)).2.2.2
/-- The first clause alike is struck. -/
def goneF (l : List (List Int)) (c : List Int) : List (List Int) := l.eraseP fun a => alikeF a c
theorem eraseP_at {α : Type} [Inhabited α] {p : α → Bool} : ∀ {l : List α} {i : Int}, 0 ≤ i → i < l.length → p (ix l i) = true → (∀ x ∈ l.take i.toNat, p x = false) → l.eraseP p = l.take i.toNat ++ l.drop (i + 1).toNat := by
  intro l i h0 h1 h2 h3
  have e : l = l.take i.toNat ++ ix l i :: l.drop (i + 1).toNat := by rw [← drop_ix h0 h1, List.take_append_drop]
  conv => lhs; rw [e]
  rw [List.eraseP_append_right _ (fun x hx => by simp [h3 x hx]), List.eraseP_cons_of_pos h2]
theorem gone_ok {l : List (List Int)} {c : List Int} {Q : List (List Int) → Prop} (hf : l.length ≤ 5864062014805) (h : Q (goneF l c)) : V_gone l c Q := by
  refine ⟨fun i => 0 ≤ i ∧ i ≤ l.length ∧ ∀ x ∈ l.take i.toNat, alikeF x c = false, fun i => (l.length - i).toNat, ⟨by omega, by omega, by simp⟩, ?_⟩
  rintro i ⟨g0, g1, g2⟩ hl
  refine ⟨fun hlt => ⟨⟨g0, hlt⟩, refAlike_ok ⟨fun hb => ⟨⟨g0, g1⟩, ?_, i64_succ hl g0 hlt, ⟨by omega, by omega⟩, ?_, ?_⟩, fun hb => ⟨i64_succ hl g0 hlt, ⟨by omega, by omega, ?_⟩, by dsimp only; omega⟩⟩⟩, fun hge => ?_⟩
  · constructor
    · simp; omega
    · simp [maxLen]; omega
  · constructor
    · simp; omega
    · simp [maxLen]; omega
  · rw [goneF, eraseP_at g0 hlt hb g2] at h; exact h
  · rw [take_ix g0 hlt]
    intro x hx
    rcases List.mem_append.1 hx with hx | hx
    · exact g2 x hx
    · rw [List.mem_singleton.1 hx]; exact hb
  · rw [List.take_of_length_le (by omega)] at g2
    rw [goneF, List.eraseP_of_forall_not (fun x hx => by simp [g2 x hx])] at h; exact h
/-! ### Lines -/
def neg (c : List Int) : List Int := c.map (-·)
/-- The document's way through the lines. -/
def showGo (n : Int) : List (List Int) → Bool → List (Bool × List Int) → Bool
  | _, shown, [] => shown
  | l, shown, (g, c) :: ps => if g then showGo n (goneF l c) shown ps else if (followF n l (neg c)).isSome then false else showGo n (l ++ [c]) (shown || decide (c = [])) ps
def allOk (n : Int) (ps : List (Bool × List Int)) : Bool := ps.all fun p => litsOk n p.2
def showF (n : Int) (cs : List (List Int)) (ps : List (Bool × List Int)) : Bool := if faultOf n cs ≠ 0 then false else allOk n ps && showGo n cs false ps
theorem neg_lits {n : Int} {c : List Int} (h : litsOk n c = true) : litsOk n (neg c) = true := by
  unfold litsOk neg at *
  rw [List.all_map]
  rw [List.all_eq_true] at *
  intro x hx
  have := h x hx
  simp only [Function.comp]
  rw [isLit_iff] at *
  omega
theorem goneF_all {n : Int} {l : List (List Int)} (c : List Int) (h : l.all (litsOk n) = true) : (goneF l c).all (litsOk n) = true := by
  rw [List.all_eq_true] at *
  exact fun x hx => h x (List.mem_of_mem_eraseP hx)
theorem goneF_length (l : List (List Int)) (c : List Int) : (goneF l c).length ≤ l.length := List.length_eraseP_le
/-- The lines fit. -/
def FitsP (ps : List (Bool × List Int)) : Prop := ps.length ≤ 4398046511104 ∧ ∀ p ∈ ps, Fits p.2
theorem fault_zero {n : Int} {cs : List (List Int)} (h : faultOf n cs = 0) : okN n ∧ cs.length ≤ 33554432 ∧ cs.all (litsOk n) = true := by
  unfold faultOf at h
  split at h
  · omega
  · split at h
    · omega
    · split at h
      · exact ⟨⟨by omega, by omega⟩, by omega, by assumption⟩
      · omega
theorem neg_loop {n : Int} {c : List Int} {K : List Int → Prop} (hn : okN n) (hc : litsOk n c = true) (hf : Fits c) (h : K (neg c)) {i : Int} {out : List Int} (g0 : 0 ≤ i) (g1 : i ≤ c.length) (g2 : out = neg (c.take i.toNat)) :
    (i < c.length → I64 (-(ix c i)) ∧ Room (out.length + [-(ix c i)].length) 8 ∧ out ++ [-(ix c i)] = neg (c.take (i + 1).toNat)) ∧ (¬ i < c.length → K out) := by
  refine ⟨fun hlt => ⟨lits_neg hn hc _ (ix_mem g0 hlt), ?_, ?_⟩, fun hge => ?_⟩
  · have hol : out.length ≤ i.toNat := by rw [g2, neg, List.length_map, List.length_take]; omega
    unfold Fits at hf
    constructor
    · simp; omega
    · simp [maxLen]; omega
  · rw [take_ix g0 hlt, g2]; simp [neg]
  · rw [List.take_of_length_le (by omega)] at g2
    rw [g2]; exact h
theorem refChecked_ok {n : Int} {cs : List (List Int)} {ps : List (Bool × List Int)} {Q : Bool → Prop} (hf : FitsP ps) (h : Q (showF n cs ps)) : V_refChecked n cs ps Q := by
  refine Fault_ok ⟨fun h0 => by rw [showF, if_pos h0] at h; exact h, fun h0 => ?_⟩
  simp only [ne_eq, Decidable.not_not] at h0
  rw [showF, if_neg (by simp [h0])] at h
  obtain ⟨hn, hcl, hca⟩ := fault_zero h0
  refine ⟨fun i => 0 ≤ i ∧ i ≤ ps.length ∧ allOk n ps = allOk n (ps.drop i.toNat), fun i => (ps.length - i).toNat, ⟨by omega, by omega, by simp⟩, ?_⟩
  rintro i ⟨g0, g1, g2⟩ hl
  refine ⟨fun hlt => ⟨⟨g0, hlt⟩, refLiterals_ok ?_⟩, fun hge => ?_⟩
  · rw [drop_ix g0 hlt, allOk, allOk, List.all_cons] at g2
    rw [litsW_eq hn]
    refine ⟨fun hb => ?_, fun hb => ⟨i64_succ hl g0 hlt, ⟨by omega, by omega, ?_⟩, by dsimp only; omega⟩⟩
    · simp only [Bool.not_eq_true'] at hb
      rw [hb, Bool.false_and] at g2
      rw [show allOk n ps = false from g2] at h; exact h
    · simp only [Bool.not_eq_false'] at hb
      rw [hb, Bool.true_and] at g2; exact g2
  · rw [drop_end g0 hge] at g2
    rw [show allOk n ps = true from g2, Bool.true_and] at h
    have hall : ∀ p ∈ ps, litsOk n p.2 = true := List.all_eq_true.1 g2
    clear g2 g0 g1 hge
    refine ⟨⟨by simp; omega, by simp [maxLen]; omega⟩, ?_⟩
    refine ⟨fun s => 0 ≤ s.2.2 ∧ s.2.2 ≤ ps.length ∧ s.1.all (litsOk n) = true ∧ s.1.length ≤ 33554432 + s.2.2.toNat ∧ showGo n cs false ps = showGo n s.1 s.2.1 (ps.drop s.2.2.toNat), fun s => (ps.length - s.2.2).toNat, ⟨by simp, by simp, hca, by simp; omega, by simp⟩, ?_⟩
    rintro ⟨l, shown, i⟩ ⟨g0, g1, hla, hll, g2⟩ hl
    simp only at g0 g1 hla hll g2
    refine ⟨fun hlt => ?_, fun hge => ?_⟩
    · have hpm := ix_mem g0 hlt
      have hpl := hall _ hpm
      have hpf := hf.2 _ hpm
      rw [drop_ix g0 hlt] at g2
      generalize hp : ix ps i = p at *
      obtain ⟨g, c⟩ := p
      simp only at hpl hpf
      rw [showGo] at g2
      refine ⟨fun s => s.1.all (litsOk n) = true ∧ s.1.length ≤ 33554432 + (i + 1).toNat ∧ showGo n cs false ps = showGo n s.1 s.2 (ps.drop (i + 1).toNat), ?_, ⟨g0, hlt⟩, ⟨g0, hlt⟩, fun hg => ?_, fun hg => ?_⟩
      · rintro ⟨l', s'⟩ ⟨j1, j2, j3⟩
        exact ⟨i64_succ hl g0 hlt, ⟨by dsimp only; omega, by dsimp only; omega, j1, j2, j3⟩, by dsimp only; omega⟩
      · simp only at hg
        rw [if_pos hg] at g2
        have := hf.1
        refine gone_ok (by omega) ⟨goneF_all c hla, ?_, g2⟩
        have := goneF_length l c
        dsimp only; omega
      · simp only at hg
        rw [hg, if_neg (by simp)] at g2
        refine ⟨fun s => 0 ≤ s.2 ∧ s.2 ≤ c.length ∧ s.1 = neg (c.take s.2.toNat), fun s => (c.length - s.2).toNat, ⟨by simp, by simp, by simp [neg]⟩, ?_⟩
        rintro ⟨out, k⟩ ⟨k0, k1, k2⟩ hlc
        simp only at k0 k1 k2
        obtain ⟨n1, n2⟩ := neg_loop (K := fun o => o = neg c) hn hpl hpf rfl k0 k1 k2
        refine ⟨fun hlt2 => ⟨⟨k0, hlt2⟩, fun _ => ?_⟩, fun hge2 => ?_⟩
        · replace hlt2 : k < (c.length : Int) := hlt2
          obtain ⟨m1, m2, m3⟩ := n1 hlt2
          exact ⟨m1, m2, i64_succ hlc k0 hlt2, ⟨by dsimp only; omega, by dsimp only; omega, m3⟩, by dsimp only; omega⟩
        · have ho := n2 hge2
          subst ho
          refine refFollow_ok hn hla (neg_lits hpl) ?_
          cases hfo : followF n l (neg c) with
          | some v =>
            rw [hfo] at g2
            refine ⟨fun _ => ?_, fun h => by cases h⟩
            simp only [Option.isSome_some, if_true] at g2
            rw [g2] at h; exact h
          | none =>
            rw [hfo] at g2
            simp only [Option.isSome_none, Bool.false_eq_true, if_false] at g2
            refine ⟨fun h => by (cases h), fun _ => ⟨?_, fun _ => ⟨?_, ?_, ?_⟩⟩⟩
            · have := hf.1
              constructor
              · simp; omega
              · simp [maxLen]; omega
            · simp [hla, hpl]
            · simp; omega
            · rw [g2]
              have e : (shown || decide (c = [])) = decide (shown = true ∨ (c.length : Int) = 0) := by
                cases shown <;> cases c <;> simp
                omega
              rw [e]
    · rw [drop_end g0 hge, showGo] at g2
      rw [g2] at h; exact h
end Go.Vc
