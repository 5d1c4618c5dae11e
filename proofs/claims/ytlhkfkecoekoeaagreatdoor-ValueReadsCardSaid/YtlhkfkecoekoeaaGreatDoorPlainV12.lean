/- What is shown is read to the same value. No program in sight. -/
import Derived.Test.YtlhkfkecoekoeaaGreatDoorPlainV11
set_option linter.unusedVariables false
set_option linter.unusedSimpArgs false
namespace Go.Vc
def Sep (r : Str) : Prop := ∀ c s, r = c :: s → wordB c = false
theorem Sep.mk {c : UInt8} {s : Str} (h : wordB c = false) : Sep (c :: s) := fun d t e => by injection e with e1 e2; subst e1; exact h
theorem Sep.nil : Sep [] := fun d t e => by cases e
section
variable {α : Type} {one : Str → Bool → RO α} {sh : α → Str} {last : Str}
end
section
variable {f : Nat} {s r' : Str} {deep : Int} {h h' : Bool} (hsk : skipS s = s)
include hsk
end
theorem readV_fit (t : Str) : Fit (readV t).1 ∧ dpV (readV t).1 ≤ 24 ∧ (showV (readV t).1).length ≤ 100000 := by
  have nilc : Fit .nil ∧ dpV .nil ≤ 24 ∧ (showV .nil).length ≤ 100000 := ⟨trivial, by simp [dpV], by simp [showV]⟩
  unfold readV
  split
  · exact nilc
  · rename_i hl
    split
    · exact nilc
    · rename_i v r h e
      have := rdV_post (by omega) e
      obtain ⟨p, hp, h1, h2⟩ := this.took
      split
      · exact nilc
      · split
        · exact nilc
        · refine ⟨this.fit, by have := this.deep; show dpV v ≤ 24; omega, ?_⟩
          have hpl := congrArg List.length hp
          simp at hpl
          show shl v ≤ _
          omega
end Go.Vc
