/- The plain part of two laws: the conditions of the functions of RefineComposes and Names are so. No program in sight. -/
import Derived.Test.YthndbddongefoaaConds
namespace Go.Vc
theorem sameInts_ok {a b : List Int} {Q : Bool → Prop} (h : Q (decide (a = b))) : V_sameInts a b Q := by
  intro ha hb
  refine ⟨fun hne => ?_, fun heq => ?_⟩
  · have : a ≠ b := by rintro rfl; exact hne rfl
    simpa [this] using h
  · have heq' : a.length = b.length := by omega
    refine ⟨fun i => 0 ≤ i ∧ i ≤ a.length ∧ ∀ j : Nat, (j : Int) < i → a[j]? = b[j]?, fun i => (a.length - i).toNat, ⟨by omega, by omega, fun j hj => by omega⟩, ?_⟩
    rintro i ⟨h0, h1, h2⟩ _
    obtain ⟨k, rfl⟩ := Int.eq_ofNat_of_zero_le h0
    refine ⟨fun hlt => ⟨⟨h0, hlt⟩, fun _ => ⟨⟨h0, by omega⟩, fun _ => ⟨fun hx => ?_, fun hx => ⟨?_, ⟨?_, ?_, ?_⟩, ?_⟩⟩⟩⟩, fun hge => ?_⟩
    · rw [ix_nat (by omega), ix_nat (by omega)] at hx
      have : a ≠ b := by rintro rfl; exact hx rfl
      simpa [this] using h
    · unfold Len at ha; exact ⟨by omega, by omega⟩
    · omega
    · omega
    · intro j hj
      by_cases hjk : j = k
      · subst hjk
        rw [ix_nat (by omega), ix_nat (by omega)] at hx
        rw [List.getElem?_eq_getElem (by omega), List.getElem?_eq_getElem (by omega)]
        simpa using hx
      · exact h2 j (by omega)
    · simp only; omega
    · have : a = b := by
        apply List.ext_getElem?
        intro j
        by_cases hj : j < a.length
        · exact h2 j (by omega)
        · rw [List.getElem?_eq_none (by omega), List.getElem?_eq_none (by omega)]
      simpa [this] using h

/-- What numbers stand for, through two lists. -/
def compose (f g : List Int) : List Int := f.map fun k : Int => if 0 ≤ k ∧ k < g.length then ix g k else -1

theorem set_replicate_step {f g : List Int} {k : Nat} (hk : k < f.length) (x : Int) (out : List Int) (ho : out.length = f.length) (h : ∀ j : Nat, j < k → out[j]? = (compose f g)[j]?) (hx : (compose f g)[k]? = some x) :
    ∀ j : Nat, j < k + 1 → (out.set k x)[j]? = (compose f g)[j]? := by
  intro j hj
  by_cases e : j = k
  · subst e; rw [hx, List.getElem?_set_self (by omega)]
  · rw [List.getElem?_set_ne (by omega)]; exact h j (by omega)
theorem compose_get {f g : List Int} {k : Nat} (hk : k < f.length) : (compose f g)[k]? = some (if 0 ≤ ix f k ∧ ix f k < g.length then ix g (ix f k) else -1) := by
  simp [compose, hk, ix_nat]
theorem compose_length (f g : List Int) : (compose f g).length = f.length := by simp [compose]
theorem Compose_ok {f g : List Int} {Q : List Int → Prop} (hf : f.length ≤ 17592186044416) (h : Q (compose f g)) : V_Compose f g Q := by
  intro hl
  refine ⟨⟨by omega, by omega, by omega⟩, fun _ => ?_⟩
  refine ⟨fun s => 0 ≤ s.2 ∧ s.2 ≤ f.length ∧ s.1.length = f.length ∧ ∀ j : Nat, (j : Int) < s.2 → s.1[j]? = (compose f g)[j]?, fun s => (f.length - s.2).toNat, ⟨by omega, by omega, by simp, fun j hj => by simp at hj; omega⟩, ?_⟩
  rintro ⟨out, i⟩ ⟨h0, h1, ho, h2⟩
  obtain ⟨k, rfl⟩ := Int.eq_ofNat_of_zero_le h0
  simp only at h0 h1 ho h2
  refine ⟨fun hlt => ⟨fun o => o.length = f.length ∧ ∀ j : Nat, j < k + 1 → o[j]? = (compose f g)[j]?, ?_, ⟨h0, hlt⟩, fun _ => ⟨⟨h0, by omega⟩, fun hg => ⟨fun hc => ⟨hc, fun _ => ⟨⟨h0, by simp; omega⟩, ?_⟩⟩, fun hc => ?_⟩⟩⟩, fun hge => ?_⟩
  · rintro o ⟨hol, hoj⟩
    exact ⟨⟨by omega, by omega⟩, ⟨⟨by omega, by omega, hol, fun j hj => hoj j (by omega)⟩, by simp only; omega⟩⟩
  · refine ⟨by simp [ho], ?_⟩
    simp only [Int.toNat_natCast]
    refine set_replicate_step (f := f) (by omega) _ _ (by simp [ho]) (fun j hj => ?_) ?_
    · rw [List.getElem?_set_ne (by omega)]; exact h2 j (by omega)
    · rw [compose_get (by omega), if_pos hc]
  · refine ⟨by simp [ho], ?_⟩
    simp only [Int.toNat_natCast]
    exact set_replicate_step (f := f) (by omega) _ _ ho (fun j hj => h2 j (by omega)) (by rw [compose_get (by omega), if_neg hc])
  · have : out = compose f g := by
      apply List.ext_getElem?
      intro j
      by_cases hj : j < f.length
      · exact h2 j (by omega)
      · rw [List.getElem?_eq_none (by omega), List.getElem?_eq_none (by rw [compose_length]; omega)]
    rw [this]; exact h

theorem refCompose_ok {f g : List Int} {Q : List Int → Prop} (hf : f.length ≤ 17592186044416) (h : Q (compose f g)) : V_refCompose f g Q := by
  refine ⟨fun s => 0 ≤ s.2 ∧ s.2 ≤ f.length ∧ s.1 = (compose f g).take s.2.toNat, fun s => (f.length - s.2).toNat, ⟨by omega, by omega, by simp⟩, ?_⟩
  rintro ⟨out, i⟩ ⟨h0, h1, h2⟩
  simp only at h0 h1 h2
  obtain ⟨k, rfl⟩ := Int.eq_ofNat_of_zero_le h0
  simp only [Int.toNat_natCast] at h2
  have hol : out.length = k := by rw [h2, List.length_take, compose_length]; omega
  intro hl
  refine ⟨fun hlt => ⟨fun v => (compose f g)[k]? = some v, ?_, fun b => b = decide (0 ≤ ix f k ∧ ix f k < g.length), ?_, ⟨h0, hlt⟩, fun _ => ⟨fun hc => ⟨⟨h0, hlt⟩, fun _ _ => ?_⟩, fun hc => ?_⟩⟩, fun hge => ?_⟩
  · intro v hv
    refine ⟨⟨by simp; omega, ?_⟩, ⟨by omega, by omega⟩, ⟨by omega, by omega, ?_⟩, by simp only; omega⟩
    · simp only [List.length_cons, List.length_nil, maxLen]; omega
    · have e : ((k : Int) + 1).toNat = k + 1 := by omega
      have hkl : k < (compose f g).length := by rw [compose_length]; omega
      simp only [e]
      rw [List.take_succ_eq_append_getElem hkl, h2]
      rw [List.getElem?_eq_getElem hkl, Option.some.injEq] at hv
      rw [hv]
  · rintro b rfl
    refine ⟨fun hb => ?_, fun hb => ?_⟩
    · have hb := of_decide_eq_true hb
      exact ⟨⟨h0, hlt⟩, fun _ => ⟨hb, fun _ => by rw [compose_get (by omega), if_pos hb]⟩⟩
    · have hb := of_decide_eq_false hb
      show (compose f g)[k]? = _
      rw [compose_get (by omega), if_neg hb]
  · show decide _ = decide _
    simp [hc]
  · show false = decide _
    simp [hc]
  · have : k = f.length := by omega
    subst this
    have : out = compose f g := by rw [h2, List.take_of_length_le (by rw [compose_length]; omega)]
    rw [this]; exact h

theorem RefineComposes_ok {f g : List Int} {Q : Bool → Prop} (hf : f.length ≤ 17592186044416) (hg : g.length ≤ 17592186044416) (h : Q true) : V_RefineComposes f g Q := by
  refine ⟨⟨by simp; omega, by simp [maxLen]; omega⟩, ⟨by simp; omega, by simp [maxLen]; omega⟩, ?_⟩
  refine Compose_ok hf (refCompose_ok hf (sameInts_ok (sameInts_ok (sameInts_ok ?_))))
  simpa using h

theorem Names_ok {Q : Bool → Prop} (h : Q true) : V_Names Q := by
  have hix : ∀ k : Nat, k < 9 → ix ([0, 1, 2, 3, 4, 5, 6, 7, 8] : List Int) k = k := by
    intro k hk
    match k, hk with
    | 0, _ => rfl
    | 1, _ => rfl
    | 2, _ => rfl
    | 3, _ => rfl
    | 4, _ => rfl
    | 5, _ => rfl
    | 6, _ => rfl
    | 7, _ => rfl
    | 8, _ => rfl
    | k + 9, hk => omega
  refine ⟨fun i => 0 ≤ i ∧ i ≤ 9, fun i => (9 - i).toNat, ⟨by omega, by omega⟩, ?_⟩
  rintro i ⟨h0, h1⟩ _
  obtain ⟨k, rfl⟩ := Int.eq_ofNat_of_zero_le h0
  refine ⟨fun hlt => ⟨⟨h0, hlt⟩, fun _ => ⟨fun hne => ?_, fun _ => ⟨⟨by omega, by omega⟩, ⟨by omega, ?_⟩, ?_⟩⟩⟩, fun _ => h⟩
  · simp at hlt; exact absurd (hix k (by omega)) hne
  · simp at hlt; omega
  · simp at hlt; simp only; omega
end Go.Vc
