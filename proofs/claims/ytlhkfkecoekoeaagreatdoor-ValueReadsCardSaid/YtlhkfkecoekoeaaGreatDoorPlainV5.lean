/- The stable sort of a function's keys, part 1: insertion, swapping, rotating. No program in sight. -/
import Derived.Test.YtlhkfkecoekoeaaGreatDoorPlainV4
set_option linter.unusedVariables false
set_option linter.unusedSimpArgs false
namespace Go.Vc
theorem ix_app {α : Type} [Inhabited α] {A B : List α} {x : α} {i : Int} (h : i = A.length) : ix (A ++ x :: B) i = x := by
  subst h; simp [ix]
theorem set_app {α : Type} {A B : List α} {x y : α} {i : Int} (h : i = A.length) : (A ++ x :: B).set i.toNat y = A ++ y :: B := by
  subst h; simp [List.set_append]
theorem app_split {α : Type} {l : List α} {i : Int} (h0 : 0 ≤ i) (h1 : i < l.length) : ∃ A x B, l = A ++ x :: B ∧ i = A.length := by
  refine ⟨l.take i.toNat, l[i.toNat]'(by omega), l.drop (i.toNat + 1), ?_, by simp; omega⟩
  rw [← List.drop_eq_getElem_cons, List.take_append_drop]
theorem snoc_split {α : Type} {l : List α} (h : l ≠ []) : ∃ A x, l = A ++ [x] := ⟨l.dropLast, l.getLast h, (List.dropLast_concat_getLast h).symm⟩
section
variable {c : List Val}
def ltI (c : List Val) (i k : Int) : Prop := cmpV (ix c i) (ix c k) < 0 ∨ (cmpV (ix c i) (ix c k) = 0 ∧ i < k)
theorem ltI.trans {i j k : Int} (h1 : ltI c i j) (h2 : ltI c j k) : ltI c i k := by
  have a1 : cmpV (ix c i) (ix c j) ≤ 0 := by rcases h1 with h | h <;> omega
  have a2 : cmpV (ix c j) (ix c k) ≤ 0 := by rcases h2 with h | h <;> omega
  have a3 := cmpV_trans_le a1 a2
  by_cases h0 : cmpV (ix c i) (ix c k) = 0
  · right; refine ⟨h0, ?_⟩
    have e1 := cmpV_neg (ix c i) (ix c k)
    have e2 : cmpV (ix c j) (ix c i) ≤ 0 := cmpV_trans_le a2 (by omega)
    have e3 : cmpV (ix c k) (ix c j) ≤ 0 := cmpV_trans_le (b := ix c i) (by omega) a1
    have e4 := cmpV_neg (ix c i) (ix c j)
    have e5 := cmpV_neg (ix c j) (ix c k)
    rcases h1 with h | h
    · omega
    · rcases h2 with h' | h'
      · omega
      · omega
  · left; omega
theorem ltI_of_not {i k : Int} (h : ¬ cmpV (ix c k) (ix c i) < 0) (hi : i < k) : ltI c i k := by
  have := cmpV_neg (ix c k) (ix c i)
  by_cases h0 : cmpV (ix c i) (ix c k) = 0
  · exact Or.inr ⟨h0, hi⟩
  · exact Or.inl (by omega)
def Inds (c : List Val) (d : List Int) : Prop := ∀ i ∈ d, In i c
theorem FunOf1_ok {i k : Int} {Q : Int → Prop} (hv : HvL c) (hi : In i c) (hk : In k c) (h : Q (cmpV (ix c i) (ix c k))) : V_FunOf1 i k c Q :=
  ⟨hi, hk, (ix c i).sz + 1, Compare_ok _ (by omega) (HvL_iff.1 hv _ (ix_mem hi.1 hi.2)) (HvL_iff.1 hv _ (ix_mem hk.1 hk.2)) h⟩
theorem cmpV_i64 (a b : Val) : I64 (cmpV a b) := by unfold I64; rcases cmpV_three a b with h | h | h <;> omega
theorem insSF_ok {P X S : List Int} {a b : Int} {Q : List Int → Prop} (hv : HvL c) (hb : (P ++ X ++ S).length ≤ 1000000) (ha : a = P.length) (hb2 : b = a + X.length) (hi : Inds c X) (hx : X.Pairwise (· < ·))
    (h : ∀ Y, Y.Perm X → Y.Pairwise (ltI c) → Q (P ++ Y ++ S)) : V_insSF (P ++ X ++ S) a b c Q := by
  simp at hb
  refine ⟨by unfold I64; omega, ?_⟩
  by_cases hX : X = []
  · subst hX
    refine ⟨fun s => s = (P ++ [] ++ S, a + 1), fun _ => 0, rfl, ?_⟩
    rintro _ rfl
    exact ⟨fun hn => absurd hn (by simp at hb2; omega), fun _ => h [] (List.Perm.refl _) List.Pairwise.nil⟩
  refine ⟨fun s => ∃ Z W, s.1 = P ++ Z ++ W ++ S ∧ s.2 = a + Z.length ∧ Z.length + W.length = X.length ∧ Z.Perm (X.take Z.length) ∧ W = X.drop Z.length ∧ Z.Pairwise (ltI c), fun s => (b - s.2).toNat, ?_, ?_⟩
  · cases X with
    | nil => exact absurd rfl hX
    | cons x X => exact ⟨[x], X, by simp, by simp, by simp; omega, by simp, by simp, by simp⟩
  rintro ⟨d, i⟩ ⟨Z, W, e1, e2, e3, e4, e5, e6⟩
  simp only at e1 e2
  subst e1
  refine ⟨fun hk => ?_, fun hk => ?_⟩
  · cases W with
    | nil => simp at e3; omega
    | cons w W =>
    simp only [List.length_cons] at e3
    have hw : ∀ z ∈ Z, z < w := fun z hz => by
      have hz := e4.mem_iff.1 hz
      have : X.take Z.length ++ (w :: W) = X := by rw [e5, List.take_append_drop]
      rw [← this] at hx
      exact (List.pairwise_append.1 hx).2.2 z hz w (by simp)
    have hwi : In w c := hi w (by have : w ∈ X.drop Z.length := by rw [← e5]; simp
                                  exact List.mem_of_mem_drop this)
    have hzi : ∀ z ∈ Z, In z c := fun z hz => hi z (List.mem_of_mem_take (e4.mem_iff.1 hz))
    refine ⟨fun s => ∃ Z1 Z2, s.1 = P ++ Z1 ++ w :: (Z2 ++ W ++ S) ∧ s.2 = a + Z1.length ∧ Z = Z1 ++ Z2 ∧ (∀ z ∈ Z2, ltI c w z), fun s => (s.2 - a).toNat, ⟨Z, [], by simp, by simpa using e2, by simp, by simp⟩, ?_⟩
    rintro ⟨d, j⟩ ⟨Z1, Z2, f1, f2, f3, f4⟩
    simp only at f1 f2
    subst f1
    have hzl : Z.length = Z1.length + Z2.length := by rw [f3]; simp
    have hin : In j (P ++ Z1 ++ w :: (Z2 ++ W ++ S)) := ⟨by omega, by simp; omega⟩
    have ej : ix (P ++ Z1 ++ w :: (Z2 ++ W ++ S)) j = w := ix_app (by simp; omega)
    have done : (Z1 = [] ∨ ∃ A z, Z1 = A ++ [z] ∧ ltI c z w) → ∃ Z' W', P ++ Z1 ++ w :: (Z2 ++ W ++ S) = P ++ Z' ++ W' ++ S ∧ i + 1 = a + Z'.length ∧ Z'.length + W'.length = X.length ∧ Z'.Perm (X.take Z'.length) ∧ W' = X.drop Z'.length ∧ Z'.Pairwise (ltI c) := fun hz => by
      refine ⟨Z1 ++ w :: Z2, W, by simp, by simp; omega, by simp; omega, ?_, ?_, ?_⟩
      · have l1 : (Z1 ++ w :: Z2).length = Z.length + 1 := by simp; omega
        rw [l1]
        have : X.take (Z.length + 1) = X.take Z.length ++ [w] := by
          have e : X = X.take Z.length ++ w :: W := by rw [e5, List.take_append_drop]
          have hl : (X.take Z.length).length = Z.length := by simp; omega
          conv => lhs; rw [e]
          rw [List.take_append, hl, List.take_of_length_le (by omega)]; simp
        rw [this]
        have p1 : (Z1 ++ w :: Z2).Perm (w :: Z) := by rw [f3]; exact List.perm_middle
        exact p1.trans ((List.Perm.cons w e4).trans (List.perm_append_singleton w _).symm)
      · have l1 : (Z1 ++ w :: Z2).length = Z.length + 1 := by simp; omega
        rw [l1, ← List.drop_drop, ← e5]; simp
      · rw [f3] at e6
        obtain ⟨q1, q2, q3⟩ := List.pairwise_append.1 e6
        refine List.pairwise_append.2 ⟨q1, List.pairwise_cons.2 ⟨f4, q2⟩, fun x hx y hy => ?_⟩
        have hxw : ltI c x w := by
          rcases hz with rfl | ⟨A, z, rfl, hzw⟩
          · cases hx
          · rcases List.mem_append.1 hx with hx | hx
            · exact ((List.pairwise_append.1 q1).2.2 x hx z (by simp)).trans hzw
            · rw [List.mem_singleton.1 hx]; exact hzw
        rcases List.mem_cons.1 hy with rfl | hy
        · exact hxw
        · exact q3 x hx y hy
    refine VMeet_go ⟨fun hj => ⟨hin, fun _ => ⟨by unfold I64; omega, ?_⟩⟩, fun hj => ⟨fun hn => by simp at hn, fun _ => ⟨by unfold I64; omega, ?_, ?_⟩⟩⟩
    · have hne : Z1 ≠ [] := by rintro rfl; simp at f2; omega
      obtain ⟨A, z, rfl⟩ := snoc_split hne
      simp only [List.length_append, List.length_singleton] at f2 hzl
      have el : P ++ (A ++ [z]) ++ w :: (Z2 ++ W ++ S) = (P ++ A) ++ z :: (w :: (Z2 ++ W ++ S)) := by simp
      have ez : ix (P ++ (A ++ [z]) ++ w :: (Z2 ++ W ++ S)) (j - 1) = z := by rw [el]; exact ix_app (by simp; omega)
      have hin2 : In (j - 1) (P ++ (A ++ [z]) ++ w :: (Z2 ++ W ++ S)) := ⟨by omega, by simp; omega⟩
      have hzi' : In z c := hzi z (by rw [f3]; simp)
      refine ⟨hin2, fun _ => ⟨cmpV (ix c w) (ix c z), by rw [ej, ez]; exact FunOf1_ok hv hwi hzi' rfl, cmpV_i64 _ _, fun hd => ?_, fun hd => ⟨by unfold I64; omega, done (Or.inr ⟨A, z, rfl, ltI_of_not (by simpa using hd) (hw z (by rw [f3]; simp))⟩), by show (b - (i + 1)).toNat < (b - i).toNat; omega⟩⟩⟩
      refine ⟨by unfold I64; omega, by unfold I64; omega, hin2, fun _ => ⟨hin, fun _ => ⟨hin, ⟨by omega, by simp; omega⟩, by unfold I64; omega, ?_, by show (j - 1 - a).toNat < (j - a).toNat; omega⟩⟩⟩
      refine ⟨A, z :: Z2, ?_, by show j - 1 = _; omega, by rw [f3]; simp, fun y hy => ?_⟩
      · show ((P ++ (A ++ [z]) ++ w :: (Z2 ++ W ++ S)).set j.toNat (ix (P ++ (A ++ [z]) ++ w :: (Z2 ++ W ++ S)) (j - 1))).set (j - 1).toNat (ix (P ++ (A ++ [z]) ++ w :: (Z2 ++ W ++ S)) j) = _
        rw [ej, ez, set_app (by simp; omega)]
        have el2 : P ++ (A ++ [z]) ++ z :: (Z2 ++ W ++ S) = (P ++ A) ++ z :: (z :: (Z2 ++ W ++ S)) := by simp
        rw [el2, set_app (by simp; omega)]; simp
      · rcases List.mem_cons.1 hy with rfl | hy
        · exact Or.inl (by simpa using hd)
        · exact f4 y hy
    · have : Z1 = [] := by cases Z1 with
        | nil => rfl
        | cons => simp at f2; omega
      exact done (Or.inl this)
    · show (b - (i + 1)).toNat < (b - i).toNat; omega
  · have hW : W = [] := by cases W with
      | nil => rfl
      | cons w W => simp at e3; omega
    subst hW
    simp at e3
    rw [e3, List.take_length] at e4
    simpa using h Z e4 e6
theorem swapSF_ok {P M S : List Int} {b n : Int} {Q : List Int → Prop} : ∀ {X Y : List Int} {d : List Int} {a : Int}, d = P ++ X ++ M ++ Y ++ S → d.length ≤ 1000000 → a = P.length → b = a + X.length + M.length → n = X.length → n = Y.length →
    Q (P ++ Y ++ M ++ X ++ S) → V_swapSF d a b n c Q := by
  intro X Y d a hd hb ha hb2 hn hn2 h
  subst hd
  simp at hb
  refine ⟨fun s => ∃ X1 X2 Y1 Y2, X = X1 ++ X2 ∧ Y = Y1 ++ Y2 ∧ s.2 = X1.length ∧ s.2 = Y1.length ∧ s.1 = P ++ Y1 ++ X2 ++ M ++ X1 ++ Y2 ++ S, fun s => (n - s.2).toNat, ⟨[], X, [], Y, by simp, by simp, by simp, by simp, by simp⟩, ?_⟩
  rintro ⟨d, i⟩ ⟨X1, X2, Y1, Y2, f1, f2, f3, f4, f5⟩
  simp only at f3 f4 f5
  subst f1 f2 f5
  simp only [List.length_append] at hb hb2 hn hn2
  refine ⟨fun hk => ?_, fun hk => ?_⟩
  · cases X2 with
    | nil => simp at hn; omega
    | cons x X2 =>
    cases Y2 with
    | nil => simp at hn2; omega
    | cons y Y2 =>
    simp only [List.length_cons] at hb hb2 hn hn2
    have l1 : P ++ Y1 ++ x :: X2 ++ M ++ X1 ++ y :: Y2 ++ S = (P ++ Y1) ++ x :: (X2 ++ M ++ X1 ++ y :: (Y2 ++ S)) := by simp
    have l2 : P ++ Y1 ++ x :: X2 ++ M ++ X1 ++ y :: Y2 ++ S = (P ++ Y1 ++ x :: X2 ++ M ++ X1) ++ y :: (Y2 ++ S) := by simp
    have i1 : In (b + i) (P ++ Y1 ++ x :: X2 ++ M ++ X1 ++ y :: Y2 ++ S) := ⟨by omega, by simp; omega⟩
    have i2 : In (a + i) (P ++ Y1 ++ x :: X2 ++ M ++ X1 ++ y :: Y2 ++ S) := ⟨by omega, by simp; omega⟩
    have e1 : ix (P ++ Y1 ++ x :: X2 ++ M ++ X1 ++ y :: Y2 ++ S) (a + i) = x := by rw [l1]; exact ix_app (by simp; omega)
    have e2 : ix (P ++ Y1 ++ x :: X2 ++ M ++ X1 ++ y :: Y2 ++ S) (b + i) = y := by rw [l2]; exact ix_app (by simp; omega)
    refine ⟨by unfold I64; omega, by unfold I64; omega, by unfold I64; omega, i1, fun _ => ⟨by unfold I64; omega, i2, fun _ => ⟨i2, ⟨by omega, by simp; omega⟩, by unfold I64; omega, ?_, by show (n - (i + 1)).toNat < (n - i).toNat; omega⟩⟩⟩
    refine ⟨X1 ++ [x], X2, Y1 ++ [y], Y2, by simp, by simp, by simp; omega, by simp; omega, ?_⟩
    show ((P ++ Y1 ++ x :: X2 ++ M ++ X1 ++ y :: Y2 ++ S).set (a + i).toNat (ix (P ++ Y1 ++ x :: X2 ++ M ++ X1 ++ y :: Y2 ++ S) (b + i))).set (b + i).toNat (ix (P ++ Y1 ++ x :: X2 ++ M ++ X1 ++ y :: Y2 ++ S) (a + i)) = _
    rw [e1, e2, l1, set_app (by simp; omega)]
    have l3 : (P ++ Y1) ++ y :: (X2 ++ M ++ X1 ++ y :: (Y2 ++ S)) = (P ++ Y1 ++ y :: (X2 ++ M ++ X1)) ++ y :: (Y2 ++ S) := by simp
    rw [l3, set_app (by simp; omega)]; simp
  · have hX : X2 = [] := by cases X2 with
      | nil => rfl
      | cons => simp at hn; omega
    have hY : Y2 = [] := by cases Y2 with
      | nil => rfl
      | cons => simp at hn2; omega
    subst hX hY
    simpa using h
theorem rotSF_ok {P X Y S : List Int} {a m b : Int} {Q : List Int → Prop} (hb : (P ++ X ++ Y ++ S).length ≤ 1000000) (ha : a = P.length) (hm : m = a + X.length) (hb2 : b = m + Y.length) (hX : X ≠ []) (hY : Y ≠ [])
    (h : Q (P ++ Y ++ X ++ S)) : V_rotSF (P ++ X ++ Y ++ S) a m b c Q := by
  have pX : 1 ≤ X.length := List.length_pos_iff.2 hX
  have pY : 1 ≤ Y.length := List.length_pos_iff.2 hY
  simp at hb
  refine ⟨by unfold I64; omega, by unfold I64; omega, ?_⟩
  refine ⟨fun s => ∃ P' X' Y' S', s.1 = P' ++ X' ++ Y' ++ S' ∧ s.2.1 = X'.length ∧ s.2.2 = Y'.length ∧ 1 ≤ X'.length ∧ 1 ≤ Y'.length ∧ m = P'.length + X'.length ∧ P' ++ Y' ++ X' ++ S' = P ++ Y ++ X ++ S, fun s => (s.2.1 + s.2.2).toNat, ⟨P, X, Y, S, rfl, by simp; omega, by simp; omega, pX, pY, by omega, rfl⟩, ?_⟩
  rintro ⟨d, i, j⟩ ⟨P', X', Y', S', f1, f2, f3, f4, f5, f6, f7⟩
  simp only at f1 f2 f3
  subst f1
  have hl := congrArg List.length f7
  simp at hl
  refine ⟨fun hne => ⟨fun hlt => ⟨by unfold I64; omega, ?_⟩, fun hlt => ⟨by unfold I64; omega, by unfold I64; omega, by unfold I64; omega, ?_⟩⟩, fun heq => ⟨by unfold I64; omega, ?_⟩⟩
  · have e : X' = X'.take Y'.length ++ X'.drop Y'.length := by rw [List.take_append_drop]
    have l1 : (X'.take Y'.length).length = Y'.length := by simp; omega
    have l2 : (X'.drop Y'.length).length = X'.length - Y'.length := by simp
    revert e l1 l2
    generalize X'.take Y'.length = A; generalize X'.drop Y'.length = B
    intro e l1 l2
    refine swapSF_ok (P := P') (X := A) (M := B) (Y := Y') (S := S') (by rw [e]; simp) (by simp; omega) (by omega) (by omega) (by omega) (by omega) ⟨by unfold I64; omega, ⟨P' ++ Y', B, A, S', by simp, by show i - j = _; omega, by show j = _; omega, by omega, by omega, by simp; omega, ?_⟩, by show (i - j + j).toNat < (i + j).toNat; omega⟩
    rw [← f7, e]; simp
  · have e : Y' = Y'.take (Y'.length - X'.length) ++ Y'.drop (Y'.length - X'.length) := by rw [List.take_append_drop]
    have l1 : (Y'.take (Y'.length - X'.length)).length = Y'.length - X'.length := by simp
    have l2 : (Y'.drop (Y'.length - X'.length)).length = X'.length := by simp; omega
    revert e l1 l2
    generalize Y'.take (Y'.length - X'.length) = A; generalize Y'.drop (Y'.length - X'.length) = B
    intro e l1 l2
    refine swapSF_ok (P := P') (X := X') (M := A) (Y := B) (S := S') (by rw [e]; simp) (by simp; omega) (by omega) (by omega) (by omega) (by omega) ⟨by unfold I64; omega, ⟨P', B, A, X' ++ S', by simp, by show i = _; omega, by show j - i = _; omega, by omega, by omega, by omega, ?_⟩, by show (i + (j - i)).toNat < (i + j).toNat; omega⟩
    rw [← f7, e]; simp
  · refine swapSF_ok (P := P') (X := X') (M := []) (Y := Y') (S := S') (by simp) (by simp; omega) (by omega) (by simp; omega) (by omega) (by omega) ?_
    rw [List.append_nil, f7]; exact h
end
end Go.Vc
