/- The plain part of SatFollows: what follows, told as the document tells it. No program in sight. -/
import Derived.Test.YtdflojjpjklbfaaDoorPlainS2b
import Derived.Test.YtdflojjpjklbfaaDoorRead
set_option linter.unusedVariables false
namespace Go.Vc
theorem wrong_none {n : Int} {cs : List (List Int)} {g : List Int} (h : wrongOf n cs g = none) : okN n ∧ cs.length ≤ 33554432 ∧ cs.all (litsOk n) = true ∧ litsOk n g = true := by
  unfold wrongOf at h
  split at h
  · cases h
  · split at h
    · cases h
    · split at h
      · rename_i h1 h2 h3
        rw [Bool.and_eq_true] at h3
        exact ⟨⟨by omega, by omega⟩, by omega, h3.1, h3.2⟩
      · cases h
/-- What the document says is wrong. -/
def faultAll (n : Int) (cs : List (List Int)) (g : List Int) : Int := if faultOf n cs = 0 ∧ (!litsW n g) = true then 5 else faultOf n cs
theorem fault_wrong (n : Int) (cs : List (List Int)) (g : List Int) : (wrongOf n cs g).getD 0 = faultAll n cs g := by
  unfold wrongOf faultAll faultOf
  by_cases h1 : n < 0 ∨ 16777216 < n
  · simp [h1]
  · rw [if_neg h1]
    simp only [if_neg h1]
    by_cases h2 : 33554432 < (cs.length : Int)
    · simp [h2]
    · rw [if_neg h2]
      simp only [if_neg h2]
      have hn : okN n := ⟨by omega, by omega⟩
      rw [litsW_eq hn]
      by_cases h3 : cs.all (litsOk n) = true
      · simp only [h3, if_true, Bool.true_and]
        cases litsOk n g <;> simp
      · simp only [Bool.not_eq_true] at h3
        simp [h3]
theorem wrong_I64 {n m : Int} {cs : List (List Int)} {g : List Int} (h : wrongOf n cs g = some m) : I64 m ∧ m ≠ 0 := by
  unfold wrongOf at h
  unfold I64
  split at h
  · cases h; omega
  · split at h
    · cases h; omega
    · split at h
      · cases h
      · cases h; omega
theorem lawLiterals_ok {n : Int} {c : List Int} {Q : Bool → Prop} (h : Q (litsW n c)) : V_lawLiterals n c Q := by
  refine ⟨fun i => 0 ≤ i ∧ i ≤ c.length ∧ litsW n c = litsW n (c.drop i.toNat), fun i => (c.length - i).toNat, ⟨by omega, by omega, by simp⟩, ?_⟩
  rintro i ⟨h0, h1, h2⟩ hl
  refine ⟨fun hlt => ⟨⟨h0, hlt⟩, fun _ => ?_⟩, fun hge => ?_⟩
  · rw [drop_ix h0 hlt, litsW_cons] at h2
    refine Literal_ok ⟨fun hb => ?_, fun hb => ⟨i64_succ hl h0 hlt, ⟨by omega, by omega, ?_⟩, by dsimp only; omega⟩⟩
    · simp only [Bool.not_eq_true'] at hb
      rw [hb, Bool.false_and] at h2; rw [h2] at h; exact h
    · simp only [Bool.not_eq_false'] at hb
      rw [hb, Bool.true_and] at h2; exact h2
  · rw [drop_end h0 hge] at h2; rw [h2] at h; exact h
theorem Told_ok {e : Option Int} {Q : Int → Prop} (hi : ∀ n, e = some n → I64 n) (h : Q (e.getD 0)) : V_Told e Q := by
  refine ⟨fun h0 => by rw [h0] at h; exact h, fun h0 => ⟨fun h1 => absurd h1 h0, fun n hn => ⟨hi n hn, fun _ => by rw [hn] at h; exact h, fun h => by cases h⟩⟩⟩
theorem Error_ok {e : Option Int} {f : Int} {Q : Bool → Prop} (hi : ∀ n, e = some n → I64 n) (h : Q (decide (e.getD 0 = f))) : V_Error e f Q := Told_ok hi h
theorem Follow_ok {n : Int} {cs : List (List Int)} {g : List Int} {Q : List Int → Bool → Option Int → Prop} (h1 : wrongOf n cs g ≠ none → Q [] false (wrongOf n cs g)) (h2 : wrongOf n cs g = none → answer (fun v => trueTo v n.toNat) [] (fun l b => Q l b none) (followF n cs g)) : V_Follow n cs g Q := by
  refine checked_ok ⟨h1, fun h0 => ?_⟩
  have h0 : wrongOf n cs g = none := by simpa using h0
  obtain ⟨hn, _, hc, hg⟩ := wrong_none h0
  exact follow_ok hn hc hg (h2 h0)
theorem followF_vals {n : Int} {cs : List (List Int)} {g v : List Int} (hn : okN n) (hc : cs.all (litsOk n) = true) (h : followF n cs g = some v) : Vals n v := by
  unfold followF at h
  obtain ⟨u, h1, h2⟩ := Option.bind_eq_some_iff.1 h
  have hu := setAll_vals (start_vals n) h1
  clear h h1
  generalize n.toNat + 2 = k at h2
  induction k generalizing u with
  | zero => cases h2
  | succ k ih =>
    unfold propag at h2
    cases hp : passF cs u false with
    | none => rw [hp] at h2; cases h2
    | some r =>
      obtain ⟨u', m⟩ := r
      rw [hp] at h2
      have hu' := (pass_ok hn hu hc hp).1
      cases m with
      | true => exact ih u' hu' h2
      | false => cases h2; exact hu'
theorem refTrue_ok {n : Int} {v : List Int} {Q : List Int → Prop} (hn : okN n) (hv : Vals n v) (h : Q (trueTo v n.toNat)) : V_refTrue v Q := by
  have hvl := hv.1
  unfold okN at hn
  refine ⟨fun s => 1 ≤ s.2 ∧ s.2 ≤ n + 1 ∧ s.1 = trueTo v (s.2 - 1).toNat, fun s => (n + 1 - s.2).toNat, ⟨by simp, by dsimp only; omega, rfl⟩, ?_⟩
  rintro ⟨out, k⟩ ⟨k0, k1, k2⟩ hl
  simp only at k0 k1 k2
  refine ⟨fun hlt => ?_, fun hge => ?_⟩
  · have hin : In k v := ⟨by omega, hlt⟩
    have hs := trueTo_succ v (k - 1).toNat
    have e1 : (k - 1).toNat + 1 = (k + 1 - 1).toNat := by omega
    have e2 : (((k - 1).toNat : Nat) : Int) + 1 = k := by omega
    rw [e1, e2, ← k2] at hs
    have hol : out.length ≤ (k - 1).toNat := by rw [k2]; exact trueTo_length _ _
    refine ⟨fun o => o = trueTo v (k + 1 - 1).toNat, ?_, hin, fun _ => ⟨fun hz => ⟨hin, fun _ => ⟨?_, ⟨?_, ?_⟩, ?_⟩⟩, fun hz => ?_⟩⟩
    · rintro o rfl
      exact ⟨by unfold I64; omega, ⟨by dsimp only; omega, by dsimp only; omega, rfl⟩, by dsimp only; omega⟩
    · rcases hv.at k with h | h | h <;> rw [h] <;> unfold I64 <;> omega
    · simp; omega
    · simp [maxLen]; omega
    · rw [if_pos hz, Int.mul_comm] at hs; exact hs.symm
    · rw [if_neg hz, List.append_nil] at hs; exact hs.symm
  · have : k = n + 1 := by omega
    subst this
    rw [show (n + 1 - 1).toNat = n.toNat by omega] at k2
    rw [k2]; exact h
theorem SatFollows_ok {n : Int} {cs : List (List Int)} {g : List Int} {Q : Bool → Prop} (hc : FitsL cs) (hg : Fits g) (h : Q true) : V_SatFollows n cs g Q := by
  refine copied_ok hc ⟨?_, ?_⟩
  · unfold Fits at hg
    constructor
    · simp; omega
    · simp [maxLen]; omega
  have key : ∀ (l : List Int) (b : Bool) (e : Option Int), e = wrongOf n cs g → (e ≠ none → l = [] ∧ b = false) → (e = none → answer (fun v => trueTo v n.toNat) [] (fun l' b' => l = l' ∧ b = b') (followF n cs g)) →
      V_Fault n cs fun r_38 => V_lawLiterals n g fun r_41 => VMeet (σ := Int) (fun f_45 => V_Error e f_45 fun r_51 => V_sameClauses cs cs fun r_54 => V_sameInts g g fun r_59 =>
        ((((!r_51) = true) ∨ ((!r_54) = true)) ∨ ((!r_59) = true) → Q false) ∧ (¬ ((((!r_51) = true) ∨ ((!r_54) = true)) ∨ ((!r_59) = true)) →
          (f_45 ≠ 0 → (Len l → Q (decide (((l.length : Int) = 0) ∧ ((!b) = true))))) ∧ (¬ (f_45 ≠ 0) → V_refFollow n cs g fun r_68 r_73 =>
            VMeet (σ := (List Int)) (fun w_87 => V_sameInts l w_87 fun r_105 => Q (decide (((b == r_73) = true) ∧ (r_105 = true)))) fun J_91 => (r_73 = true → V_refTrue r_68 fun r_94 => J_91 r_94) ∧ (r_73 = false → J_91 ([] : List Int))))) fun J_47 =>
        ((r_38 = 0) ∧ ((!r_41) = true) → J_47 5) ∧ (¬ ((r_38 = 0) ∧ ((!r_41) = true)) → J_47 r_38) := by
    intro l b e he h1 h2
    refine Fault_ok (lawLiterals_ok ⟨fun f => f = faultAll n cs g, ?_, fun h => by rw [faultAll, if_pos h], fun h => by rw [faultAll, if_neg h]⟩)
    rintro f rfl
    have hfw := fault_wrong n cs g
    refine Error_ok (fun m hm => (wrong_I64 (he ▸ hm)).1) (sameClauses_ok (Ints_ok ?_))
    rw [he, hfw]
    simp only [decide_true, Bool.not_true, Bool.false_eq_true, or_self, false_implies, not_false_eq_true, true_implies, true_and]
    refine ⟨fun hf _ => ?_, fun hf => ?_⟩
    · have : e ≠ none := by intro h0; rw [← he, h0] at hfw; exact hf hfw.symm
      obtain ⟨rfl, rfl⟩ := h1 this
      simpa using h
    · have h0 : wrongOf n cs g = none := by
        cases hw : wrongOf n cs g with
        | none => rfl
        | some m => rw [hw] at hfw; exact absurd (by rw [← hfw]; exact (wrong_I64 hw).2) hf
      obtain ⟨hn, _, hca, hgl⟩ := wrong_none h0
      have h3 := h2 (he.trans h0)
      refine refFollow_ok hn hca hgl ?_
      cases hfo : followF n cs g with
      | none =>
        rw [hfo] at h3
        obtain ⟨rfl, rfl⟩ := h3
        exact ⟨fun w => w = [], fun w hw => by subst hw; exact Ints_ok (by simpa using h), fun h => by (cases h), fun _ => rfl⟩
      | some v =>
        rw [hfo] at h3
        obtain ⟨rfl, rfl⟩ := h3
        exact ⟨fun w => w = trueTo v n.toNat, fun w hw => by subst hw; exact Ints_ok (by simpa using h), fun _ => refTrue_ok hn (followF_vals hn hca hfo) rfl, fun h => by cases h⟩
  refine Follow_ok (fun h0 => key _ _ _ rfl (fun _ => ⟨rfl, rfl⟩) (fun h1 => absurd h1 h0)) (fun h0 => ?_)
  cases hfo : followF n cs g with
  | none => exact key _ _ _ h0.symm (fun h => absurd rfl h) (fun _ => by rw [hfo]; exact ⟨rfl, rfl⟩)
  | some v => exact key _ _ _ h0.symm (fun h => absurd rfl h) (fun _ => by rw [hfo]; exact ⟨rfl, rfl⟩)
theorem SatFollows_law {n : Int} {cs : List (List Int)} {g : List Int} {Q : Bool → Prop} (hn : I64 n) (hc : cs.length * 24 ≤ reachBytes ∧ ∀ y ∈ cs, y.length * 8 ≤ reachBytes ∧ ∀ x ∈ y, True)
    (hg : g.length * 8 ≤ reachBytes ∧ ∀ x ∈ g, True) (h : Q true) : V_SatFollows n cs g Q := by
  simp only [reachBytes] at hc hg
  exact SatFollows_ok ⟨by omega, fun c h => by have := (hc.2 c h).1; unfold Fits; omega⟩ (by unfold Fits; omega) h
end Go.Vc
