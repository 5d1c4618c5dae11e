/- The order of values in plain words: each value as a list of numbers, the order of these. No program in sight. -/
import Derived.Test.YtlhkfkecoekoeaaGreatDoorConds
set_option linter.unusedVariables false
set_option linter.unusedSimpArgs false
namespace Go.Vc
theorem VMeet_go {σ : Type} {rest : σ → Prop} {body : (σ → Prop) → Prop} (h : body rest) : VMeet rest body := ⟨rest, fun _ h => h, h⟩
def lc : List Int → List Int → Int
  | [], [] => 0
  | [], _ :: _ => -1
  | _ :: _, [] => 1
  | x :: xs, y :: ys => if x < y then -1 else if y < x then 1 else lc xs ys
theorem lc_refl : ∀ x, lc x x = 0
  | [] => rfl
  | x :: xs => by simp [lc, lc_refl xs]
theorem lc_three : ∀ x y, lc x y = -1 ∨ lc x y = 0 ∨ lc x y = 1
  | [], [] => by simp [lc]
  | [], _ :: _ => by simp [lc]
  | _ :: _, [] => by simp [lc]
  | x :: xs, y :: ys => by
    simp only [lc]; have := lc_three xs ys
    split
    · simp
    · split
      · simp
      · exact this
theorem lc_neg : ∀ x y, lc y x = - lc x y
  | [], [] => by simp [lc]
  | [], _ :: _ => by simp [lc]
  | _ :: _, [] => by simp [lc]
  | x :: xs, y :: ys => by
    simp only [lc]; have := lc_neg xs ys
    by_cases h1 : x < y
    · rw [if_neg (by omega : ¬ y < x), if_pos h1, if_pos h1]; rfl
    · by_cases h2 : y < x
      · rw [if_pos h2, if_neg h1, if_pos h2]
      · rw [if_neg h2, if_neg h1, if_neg h1, if_neg h2]; exact this
theorem lc_eq : ∀ {x y}, lc x y = 0 → x = y
  | [], [], _ => rfl
  | [], _ :: _, h => by simp [lc] at h
  | _ :: _, [], h => by simp [lc] at h
  | x :: xs, y :: ys, h => by
    simp only [lc] at h
    split at h
    · simp at h
    · split at h
      · simp at h
      · rw [lc_eq h, show x = y by omega]
theorem lc_trans : ∀ {x y z}, lc x y < 0 → lc y z < 0 → lc x z < 0
  | [], _, [], _, h2 => by
    rename_i y h1
    cases y <;> simp [lc] at *
  | [], _, _ :: _, _, _ => by simp [lc]
  | x :: xs, [], z, h1, _ => by simp [lc] at h1
  | x :: xs, y :: ys, [], _, h2 => by simp [lc] at h2
  | x :: xs, y :: ys, z :: zs, h1, h2 => by
    simp only [lc] at *
    split at h1
    · split at h2
      · rw [if_pos (by omega)]; simp
      · split at h2
        · simp at h2
        · rw [if_pos (by omega)]; simp
    · split at h1
      · simp at h1
      · split at h2
        · rw [if_pos (by omega)]; simp
        · split at h2
          · simp at h2
          · rw [if_neg (by omega), if_neg (by omega)]; exact lc_trans h1 h2
theorem lc_trans_le {x y z : List Int} (h1 : lc x y ≤ 0) (h2 : lc y z ≤ 0) : lc x z ≤ 0 := by
  by_cases e1 : lc x y = 0
  · rw [lc_eq e1]; exact h2
  · by_cases e2 : lc y z = 0
    · rw [← lc_eq e2]; exact h1
    · exact Int.le_of_lt (lc_trans (y := y) (by omega) (by omega))
def Free (x y : List Int) : Prop := ∀ s t, x ++ s = y ++ t → x = y
theorem lc_app : ∀ {x y : List Int}, Free x y → ∀ s t, lc (x ++ s) (y ++ t) = if lc x y = 0 then lc s t else lc x y
  | [], [], _, s, t => by simp [lc]
  | [], y :: ys, h, s, t => by exact absurd (h (y :: ys) [] (by simp)) (by simp)
  | x :: xs, [], h, s, t => by exact absurd (h [] (x :: xs) (by simp)) (by simp)
  | x :: xs, y :: ys, h, s, t => by
    simp only [List.cons_append, lc]
    by_cases h1 : x < y
    · simp [h1]
    · by_cases h2 : y < x
      · simp [h1, h2]
      · simp only [if_neg h1, if_neg h2]
        refine lc_app (fun s' t' e => ?_) s t
        have hx : x = y := by omega
        subst hx
        have := h s' t' (by simp [e])
        simpa using this
def encS (s : Str) : List Int := s.map (fun c => (c.toNat : Int) + 1) ++ [0]
mutual
def enc : Val → List Int
  | .nil => [0]
  | .truth b => [1, if b then 1 else 0]
  | .num n => [2, n]
  | .text s => 3 :: encS s
  | .atom s => 4 :: encS s
  | .set l _ => 5 :: (l.length : Int) :: encL l
  | .fn k v _ => 6 :: (k.length : Int) :: (encL k ++ ((v.length : Int) :: encL v))
def encL : List Val → List Int
  | [] => []
  | a :: l => enc a ++ encL l
end
mutual
def Hv : Val → Prop
  | .set l h => h = 1 + wtL l ∧ HvL l
  | .fn k v h => h = 1 + wtL k + wtL v ∧ HvL k ∧ HvL v
  | _ => True
def HvL : List Val → Prop
  | [] => True
  | a :: l => Hv a ∧ HvL l
def wtL : List Val → Int
  | [] => 0
  | a :: l => a.weightOf + wtL l
end
theorem HvL_iff : ∀ {l : List Val}, HvL l ↔ ∀ a ∈ l, Hv a
  | [] => by simp [HvL]
  | a :: l => by simp [HvL, HvL_iff]
theorem encS_inj : ∀ {x y : Str} {s t : List Int}, encS x ++ s = encS y ++ t → x = y ∧ s = t
  | [], [], s, t, h => by simpa [encS] using h
  | [], c :: y, s, t, h => by simp [encS] at h; omega
  | c :: x, [], s, t, h => by simp [encS] at h; omega
  | c :: x, d :: y, s, t, h => by
    have h' : (c.toNat : Int) + 1 = d.toNat + 1 ∧ encS x ++ s = encS y ++ t := by simpa [encS] using h
    obtain ⟨rfl, h2⟩ := encS_inj h'.2
    have : c = d := UInt8.toNat_inj.1 (by omega)
    exact ⟨by rw [this], h2⟩
mutual
theorem enc_inj : ∀ {a b : Val} {s t : List Int}, Hv a → Hv b → enc a ++ s = enc b ++ t → a = b ∧ s = t
  | .nil, b, s, t, ha, hb, h => by cases b <;> simp [enc] at h ⊢; exact h
  | .truth x, b, s, t, ha, hb, h => by
    cases b <;> simp [enc] at h ⊢
    rename_i y; cases x <;> cases y <;> simp at h ⊢ <;> exact h
  | .num x, b, s, t, ha, hb, h => by cases b <;> simp [enc] at h ⊢; exact h
  | .text x, b, s, t, ha, hb, h => by cases b <;> simp only [enc, List.cons_append, List.cons.injEq] at h ⊢ <;> first | (exfalso; omega) | skip
                                      obtain ⟨rfl, h2⟩ := encS_inj h.2; exact ⟨rfl, h2⟩
  | .atom x, b, s, t, ha, hb, h => by cases b <;> simp only [enc, List.cons_append, List.cons.injEq] at h ⊢ <;> first | (exfalso; omega) | skip
                                      obtain ⟨rfl, h2⟩ := encS_inj h.2; exact ⟨rfl, h2⟩
  | .set l w, b, s, t, ha, hb, h => by
    cases b <;> simp only [enc, List.cons_append, List.cons.injEq] at h <;> first | (exfalso; omega) | skip
    rename_i l' w'
    obtain ⟨_, h1, h2⟩ := h
    obtain ⟨e, h3⟩ := encL_inj (by omega) ha.2 hb.2 h2
    subst e
    exact ⟨by rw [show w = w' by rw [ha.1, hb.1]], h3⟩
  | .fn k v w, b, s, t, ha, hb, h => by
    cases b <;> simp only [enc, List.cons_append, List.cons.injEq, List.append_assoc] at h <;> first | (exfalso; omega) | skip
    rename_i k' v' w'
    obtain ⟨_, h1, h2⟩ := h
    obtain ⟨e, h3⟩ := encL_inj (by omega) ha.2.1 hb.2.1 h2
    subst e
    simp only [List.cons_append, List.cons.injEq] at h3
    obtain ⟨e, h4⟩ := encL_inj (by omega) ha.2.2 hb.2.2 h3.2
    subst e
    exact ⟨by rw [show w = w' by rw [ha.1, hb.1]], h4⟩
theorem encL_inj : ∀ {a b : List Val} {s t : List Int}, a.length = b.length → HvL a → HvL b → encL a ++ s = encL b ++ t → a = b ∧ s = t
  | [], b, s, t, hl, ha, hb, h => by
    cases b with
    | nil => exact ⟨rfl, by simpa [encL] using h⟩
    | cons => simp at hl
  | x :: a, b, s, t, hl, ha, hb, h => by
    cases b with
    | nil => simp at hl
    | cons y b =>
      simp only [encL, List.append_assoc] at h
      obtain ⟨e, h2⟩ := enc_inj ha.1 hb.1 h
      obtain ⟨e2, h3⟩ := encL_inj (by simpa using hl) ha.2 hb.2 h2
      exact ⟨by rw [e, e2], h3⟩
end
end Go.Vc
