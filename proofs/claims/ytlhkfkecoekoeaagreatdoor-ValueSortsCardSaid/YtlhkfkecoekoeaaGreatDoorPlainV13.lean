/- The laws ValueSorts and ValueBack in plain words. No program in sight. -/
import Derived.Test.YtlhkfkecoekoeaaGreatDoorPlainV12
set_option linter.unusedVariables false
set_option linter.unusedSimpArgs false
namespace Go.Vc
theorem read_two : readV [123, 50, 44, 32, 49, 125] = (.set [.num 1, .num 2] 3, 0, none) := by rfl
theorem read_nil : readV [110, 105, 108] = (.nil, 0, none) := by rfl
theorem Cmp_ok {a b : Val} {Q : Int → Prop} (ha : Fit a) (hb : Fit b) (h : Q (cmpV a b)) : ∃ m, V_Compare m a b Q := ⟨_, Compare_ok _ (Nat.lt_succ_self _) ha.hv hb.hv h⟩
theorem ShowR_ok {t : Str} {Q : Str → Prop} (h : Q (showV (readV t).1)) : V_Show (readV t).1 Q := by
  have := readV_fit t
  exact Show_ok this.1.ev (by omega) h
theorem lives_ok {Q : Bool → Prop} (h : Q true) : V_lives Q := by
  refine Read_ok (by unfold Len; simp) ?_
  refine ShowR_ok (weight_ok (Read_ok (by unfold Len; simp) (Cmp_ok (readV_fit _).1 (readV_fit _).1 (VMeet_go ?_))))
  rw [read_two, read_nil]
  refine ⟨fun _ => ⟨fun _ => ⟨fun _ => ?_, fun hn => absurd rfl hn⟩, fun hn => absurd (by rfl) hn⟩, fun hn => absurd rfl hn⟩
  have : cmpV (.set [.num 1, .num 2] 3) .nil = 1 := by rfl
  rw [this]; exact h
theorem ValueSorts_law {a b c : Str} {Q : Bool → Prop} (la : Len a) (lb : Len b) (lc : Len c) (h : Q true) : V_ValueSorts a b c Q := by
  have fa := readV_fit a; have fb := readV_fit b; have fc := readV_fit c
  refine lives_ok (Read_ok la (Read_ok lb (Read_ok lc (Cmp_ok fa.1 fb.1 (Cmp_ok fb.1 fc.1 (Cmp_ok fa.1 fc.1 (Cmp_ok fb.1 fa.1 (VMeet_go ?_))))))))
  generalize (readV a).1 = x at *
  generalize (readV b).1 = y at *
  generalize (readV c).1 = z at *
  have n1 := cmpV_neg x y; have n2 := cmpV_neg y z; have n3 := cmpV_neg x z
  have t1 := cmpV_three x y; have t2 := cmpV_three y z; have t3 := cmpV_three x z
  have u1 : cmpV x y ≤ 0 → cmpV y z ≤ 0 → cmpV x z ≤ 0 := cmpV_trans_le
  have u2 : cmpV z y ≤ 0 → cmpV y x ≤ 0 → cmpV z x ≤ 0 := cmpV_trans_le
  refine ⟨fun hn => by simp at hn, fun _ => ⟨by unfold I64; omega, fun hn => absurd (by omega) hn, fun _ => ⟨fun hn => absurd hn (by omega), fun _ => ⟨fun hn => ?_, fun _ => ⟨fun hn => absurd hn (by omega), fun _ => ?_⟩⟩⟩⟩⟩
  · have := of_decide_eq_true hn; omega
  · refine Show_ok fa.1.ev (by omega) (Show_ok fb.1.ev (by omega) ?_)
    have : decide (cmpV x y = 0) = decide (showV x = showV y) := by
      refine decide_eq_decide.2 ⟨fun e => ?_, fun e => ?_⟩
      · rw [cmpV_eq fa.1.hv fb.1.hv e]
      · rw [show_inj fa.1 fb.1 fa.2.1 fb.2.1 e]; exact cmpV_refl _
    rw [this]; simpa using h
theorem ValueBack_law {t : Str} {Q : Bool → Prop} (lt : Len t) (h : Q true) : V_ValueBack t Q := by
  have f := readV_fit t
  refine lives_ok ⟨fun hn => by simp at hn, fun _ => Read_ok lt ⟨fun _ => h, fun he => ShowR_ok ⟨by unfold Len; omega, fun _ => h, fun hl => ?_⟩⟩⟩
  have hl2 : (showV (readV t).1).length ≤ 4000 := by omega
  have e := readV_show f.1 f.2.1 hl2
  refine Read_ok (by unfold Len; omega) ?_
  rw [e]
  refine Cmp_ok f.1 f.1 (Show_ok f.1.ev (by show (showV (readV t).1).length ≤ 900000; omega) (weight_ok (weight_ok (VMeet_go ?_))))
  rw [cmpV_refl]
  refine ⟨fun _ => ⟨fun _ => ⟨fun _ => ⟨fun _ => ⟨fun _ => ?_, fun hn => absurd f.1.pos hn⟩, fun hn => absurd rfl hn⟩, fun hn => absurd rfl hn⟩, fun hn => absurd rfl hn⟩, fun hn => absurd rfl hn⟩
  have := f.1.le
  rw [decide_eq_true this]; exact h
end Go.Vc
