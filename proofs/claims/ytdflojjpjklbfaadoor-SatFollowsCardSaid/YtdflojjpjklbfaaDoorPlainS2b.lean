/- The plain part: lists the same; lists copied. No program in sight. -/
import Derived.Test.YtdflojjpjklbfaaDoorPlainS2
set_option linter.unusedVariables false
namespace Go.Vc
theorem Ints_ok {a b : List Int} {Q : Bool → Prop} (h : Q (decide (a = b))) : V_sameInts a b Q := by
  intro ha hb
  refine ⟨fun hne => ?_, fun heq => ?_⟩
  · have : a ≠ b := by rintro rfl; exact hne rfl
    simpa [this] using h
  · have heq' : a.length = b.length := by omega
    refine ⟨fun i => 0 ≤ i ∧ i ≤ a.length ∧ (a = b ↔ a.drop i.toNat = b.drop i.toNat), fun i => (a.length - i).toNat, ⟨by omega, by omega, by simp⟩, ?_⟩
    rintro i ⟨g0, g1, g2⟩ _
    refine ⟨fun hlt => ⟨⟨g0, hlt⟩, fun _ => ⟨⟨g0, by omega⟩, fun _ => ?_⟩⟩, fun hge => ?_⟩
    · rw [drop_ix g0 hlt, drop_ix (xs := b) g0 (by omega), List.cons.injEq] at g2
      refine ⟨fun hx => ?_, fun hx => ⟨i64_succ ha g0 hlt, ⟨by omega, by omega, ?_⟩, by dsimp only; omega⟩⟩
      · have : a ≠ b := fun e => hx (g2.1 e).1
        simpa [this] using h
      · simp only [ne_eq, Decidable.not_not] at hx
        exact g2.trans ⟨fun h => h.2, fun h => ⟨hx, h⟩⟩
    · rw [drop_end g0 hge, drop_end (xs := b) g0 (by omega)] at g2
      have : a = b := g2.2 rfl
      simpa [this] using h
theorem sameClauses_ok {a b : List (List Int)} {Q : Bool → Prop} (h : Q (decide (a = b))) : V_sameClauses a b Q := by
  intro ha hb
  refine ⟨fun hne => ?_, fun heq => ?_⟩
  · have : a ≠ b := by rintro rfl; exact hne rfl
    simpa [this] using h
  · have heq' : a.length = b.length := by omega
    refine ⟨fun i => 0 ≤ i ∧ i ≤ a.length ∧ (a = b ↔ a.drop i.toNat = b.drop i.toNat), fun i => (a.length - i).toNat, ⟨by omega, by omega, by simp⟩, ?_⟩
    rintro i ⟨g0, g1, g2⟩ _
    refine ⟨fun hlt => ⟨⟨g0, hlt⟩, ⟨g0, by omega⟩, decide (ix a i = ix b i), Ints_ok rfl, ?_⟩, fun hge => ?_⟩
    · rw [drop_ix g0 hlt, drop_ix (xs := b) g0 (by omega), List.cons.injEq] at g2
      refine ⟨fun hx => ?_, fun hx => ⟨i64_succ ha g0 hlt, ⟨by omega, by omega, ?_⟩, by dsimp only; omega⟩⟩
      · simp only [Bool.not_eq_true', decide_eq_false_iff_not] at hx
        have : a ≠ b := fun e => hx (g2.1 e).1
        simpa [this] using h
      · simp only [Bool.not_eq_false', decide_eq_true_eq] at hx
        exact g2.trans ⟨fun h => h.2, fun h => ⟨hx, h⟩⟩
    · rw [drop_end g0 hge, drop_end (xs := b) g0 (by omega)] at g2
      have : a = b := g2.2 rfl
      simpa [this] using h
/-- Lists that may be copied. -/
def Fits (xs : List Int) : Prop := xs.length ≤ 17592186044416
def FitsL (cs : List (List Int)) : Prop := cs.length ≤ 5864062014805 ∧ ∀ c ∈ cs, Fits c
theorem Fits.room {xs : List Int} (h : Fits xs) (k : Nat) (hk : k ≤ 1) : Room (k + xs.length) 8 ∨ k = 1 := by
  by_cases h0 : k = 1
  · exact .inr h0
  · unfold Fits at h; left; unfold Room maxLen; omega
theorem copied_ok {l : List (List Int)} {Q : List (List Int) → Prop} (hf : FitsL l) (h : Q l) : V_copied l Q := by
  refine ⟨fun s => 0 ≤ s.2 ∧ s.2 ≤ l.length ∧ s.1 = l.take s.2.toNat, fun s => (l.length - s.2).toNat, ⟨by simp, by simp, by simp⟩, ?_⟩
  rintro ⟨out, i⟩ ⟨g0, g1, g2⟩ hl
  simp only at g0 g1 g2
  refine ⟨fun hlt => ⟨⟨g0, hlt⟩, ?_, ?_, i64_succ hl g0 hlt, ⟨by dsimp only; omega, by dsimp only; omega, ?_⟩, by dsimp only; omega⟩, fun hge => ?_⟩
  · have := hf.2 _ (ix_mem g0 hlt)
    unfold Fits at this
    constructor
    · simp; omega
    · simp [maxLen]; omega
  · have := hf.1
    have hol : out.length ≤ i.toNat := by rw [g2, List.length_take]; omega
    constructor
    · simp; omega
    · simp [maxLen]; omega
  · dsimp only; rw [take_ix g0 hlt, g2]
  · have : out = l := by rw [g2, List.take_of_length_le (by omega)]
    rw [this]; exact h
end Go.Vc
