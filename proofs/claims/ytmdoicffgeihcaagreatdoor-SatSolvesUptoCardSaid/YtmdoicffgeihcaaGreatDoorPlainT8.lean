/- The stable sort of a clause's literals by what is known of them. No program in sight. -/
import Derived.Test.YtmdoicffgeihcaaGreatDoorPlainT7
import Derived.IntWalk
set_option linter.unusedVariables false
set_option linter.unusedSimpArgs false
namespace Go.Vc
theorem VMeet_go {σ : Type} {rest : σ → Prop} {body : (σ → Prop) → Prop} (h : body rest) : VMeet rest body := ⟨rest, fun _ h => h, h⟩
theorem ix_app {α : Type} [Inhabited α] {A B : List α} {x : α} {i : Int} (h : i = A.length) : ix (A ++ x :: B) i = x := by
  subst h; simp [ix]
theorem set_app {α : Type} {A B : List α} {x y : α} {i : Int} (h : i = A.length) : (A ++ x :: B).set i.toNat y = A ++ y :: B := by
  subst h; simp [List.set_append]
theorem app_split {α : Type} {l : List α} {i : Int} (h0 : 0 ≤ i) (h1 : i < l.length) : ∃ A x B, l = A ++ x :: B ∧ i = A.length := by
  refine ⟨l.take i.toNat, l[i.toNat]'(by omega), l.drop (i.toNat + 1), ?_, by simp; omega⟩
  rw [← List.drop_eq_getElem_cons, List.take_append_drop]
theorem snoc_split {α : Type} {l : List α} (h : l ≠ []) : ∃ A x, l = A ++ [x] := ⟨l.dropLast, l.getLast h, (List.dropLast_concat_getLast h).symm⟩
theorem half_wrap {x : Int} (h0 : 0 ≤ x) (h1 : x ≤ 1000000000) : IntKind.i64.wrap ((IntKind.u64.wrap x) / 2) = x / 2 := by
  rw [IntWalk.u64_in _ ⟨by omega, by omega⟩, IntWalk.i64_in _ ⟨by omega, by omega⟩]
/-- What the comparison says of two literals: what is true is first. -/
def cmpS (T : List Int) (a b : Int) : Int := tv T b - tv T a
def ltS (T : List Int) (a b : Int) : Prop := cmpS T a b < 0 ∨ (cmpS T a b = 0 ∧ a < b)
theorem tv_bounds (T : List Int) (l : Int) : -1 ≤ tv T l ∧ tv T l ≤ 1 := by rcases tv_cases T l with h | h | h <;> omega
theorem cmpS_i64 (T : List Int) (a b : Int) : I64 (cmpS T a b) := by have := tv_bounds T a; have := tv_bounds T b; unfold cmpS I64; omega
theorem ltS.trans {T : List Int} {i j k : Int} (h1 : ltS T i j) (h2 : ltS T j k) : ltS T i k := by unfold ltS cmpS at *; omega
theorem ltS_of_not {T : List Int} {i k : Int} (h : ¬ cmpS T k i < 0) (hi : i < k) : ltS T i k := by unfold ltS cmpS at *; omega
def Inds (nn : Int) (d : List Int) : Prop := ∀ i ∈ d, isLit nn i = true
section
variable {nn : Int} {cs : List Raw} {watch : List (Int × Raw)} {value level reason T starts : List Int} {head : Int} {heat : List Unit} {proof : List (Bool × List Int)} {dead : Bool} {AA : Arena} {Cl : List (List Int)}
theorem add1_ok {a b : Int} {Q : Int → Prop} (hv : TI nn value level reason T starts Cl) (ha : isLit nn a = true) (hb : isLit nn b = true) (h : Q (cmpS T a b)) : V_add1 a b nn cs watch value level reason T starts head heat proof dead AA Q := by
  have h1 := tv_bounds T a
  have h2 := tv_bounds T b
  exact ⟨tv T b, of_ok hv hb rfl, by unfold I64; omega, tv T a, of_ok hv ha rfl, by unfold I64; omega, by unfold I64; omega, h⟩
theorem insSF_ok {P X S : List Int} {a b : Int} {Q : List Int → Prop} (hv : TI nn value level reason T starts Cl) (hb : (P ++ X ++ S).length ≤ 1000000) (ha : a = P.length) (hb2 : b = a + X.length) (hi : Inds nn X) (hx : X.Pairwise (· < ·))
    (h : ∀ Y, Y.Perm X → Y.Pairwise (ltS T) → Q (P ++ Y ++ S)) : V_insSF (P ++ X ++ S) a b nn cs watch value level reason T starts head heat proof dead AA Q := by
  simp at hb
  refine ⟨by unfold I64; omega, ?_⟩
  by_cases hX : X = []
  · subst hX
    refine ⟨fun s => s = (P ++ [] ++ S, a + 1), fun _ => 0, rfl, ?_⟩
    rintro _ rfl
    exact ⟨fun hn => absurd hn (by simp at hb2; omega), fun _ => h [] (List.Perm.refl _) List.Pairwise.nil⟩
  refine ⟨fun s => ∃ Z W, s.1 = P ++ Z ++ W ++ S ∧ s.2 = a + Z.length ∧ Z.length + W.length = X.length ∧ Z.Perm (X.take Z.length) ∧ W = X.drop Z.length ∧ Z.Pairwise (ltS T), fun s => (b - s.2).toNat, ?_, ?_⟩
  · cases X with
    | nil => exact absurd rfl hX
    | cons x X => exact ⟨[x], X, by simp, by simp, by simp; omega, by simp, by simp, by simp⟩
  rintro ⟨d, i⟩ ⟨Z, W, e1, e2, e3, e4, e5, e6⟩
  simp only at e1 e2
  subst e1
  refine ⟨fun hk => ?_, fun hk => ?_⟩
  · cases W with
    | nil => simp at e3; omega
    | cons w W =>
    simp only [List.length_cons] at e3
    have hw : ∀ z ∈ Z, z < w := fun z hz => by
      have hz := e4.mem_iff.1 hz
      have : X.take Z.length ++ (w :: W) = X := by rw [e5, List.take_append_drop]
      rw [← this] at hx
      exact (List.pairwise_append.1 hx).2.2 z hz w (by simp)
    have hwi : isLit nn w = true := hi w (List.mem_of_mem_drop (i := Z.length) (by rw [← e5]; simp))
    have hzi : ∀ z ∈ Z, isLit nn z = true := fun z hz => hi z (List.mem_of_mem_take (e4.mem_iff.1 hz))
    refine ⟨fun s => ∃ Z1 Z2, s.1 = P ++ Z1 ++ w :: (Z2 ++ W ++ S) ∧ s.2 = a + Z1.length ∧ Z = Z1 ++ Z2 ∧ (∀ z ∈ Z2, ltS T w z), fun s => (s.2 - a).toNat, ⟨Z, [], by simp, by simpa using e2, by simp, by simp⟩, ?_⟩
    rintro ⟨d, j⟩ ⟨Z1, Z2, f1, f2, f3, f4⟩
    simp only at f1 f2
    subst f1
    have hzl : Z.length = Z1.length + Z2.length := by rw [f3]; simp
    have hin : In j (P ++ Z1 ++ w :: (Z2 ++ W ++ S)) := ⟨by omega, by simp; omega⟩
    have ej : ix (P ++ Z1 ++ w :: (Z2 ++ W ++ S)) j = w := ix_app (by simp; omega)
    have done : (Z1 = [] ∨ ∃ A z, Z1 = A ++ [z] ∧ ltS T z w) → ∃ Z' W', P ++ Z1 ++ w :: (Z2 ++ W ++ S) = P ++ Z' ++ W' ++ S ∧ i + 1 = a + Z'.length ∧ Z'.length + W'.length = X.length ∧ Z'.Perm (X.take Z'.length) ∧ W' = X.drop Z'.length ∧ Z'.Pairwise (ltS T) := fun hz => by
      refine ⟨Z1 ++ w :: Z2, W, by simp, by simp; omega, by simp; omega, ?_, ?_, ?_⟩
      · have l1 : (Z1 ++ w :: Z2).length = Z.length + 1 := by simp; omega
        rw [l1]
        have : X.take (Z.length + 1) = X.take Z.length ++ [w] := by
          have e : X = X.take Z.length ++ w :: W := by rw [e5, List.take_append_drop]
          have hl : (X.take Z.length).length = Z.length := by simp; omega
          conv => lhs; rw [e]
          rw [List.take_append, hl, List.take_of_length_le (by omega)]; simp
        rw [this]
        have p1 : (Z1 ++ w :: Z2).Perm (w :: Z) := by rw [f3]; exact List.perm_middle
        exact p1.trans ((List.Perm.cons w e4).trans (List.perm_append_singleton w _).symm)
      · have l1 : (Z1 ++ w :: Z2).length = Z.length + 1 := by simp; omega
        rw [l1, ← List.drop_drop, ← e5]; simp
      · rw [f3] at e6
        obtain ⟨q1, q2, q3⟩ := List.pairwise_append.1 e6
        refine List.pairwise_append.2 ⟨q1, List.pairwise_cons.2 ⟨f4, q2⟩, fun x hx y hy => ?_⟩
        have hxw : ltS T x w := by
          rcases hz with rfl | ⟨A, z, rfl, hzw⟩
          · cases hx
          · rcases List.mem_append.1 hx with hx | hx
            · exact ((List.pairwise_append.1 q1).2.2 x hx z (by simp)).trans hzw
            · rw [List.mem_singleton.1 hx]; exact hzw
        rcases List.mem_cons.1 hy with rfl | hy
        · exact hxw
        · exact q3 x hx y hy
    refine VMeet_go ⟨fun hj => ⟨hin, fun _ => ⟨by unfold I64; omega, ?_⟩⟩, fun hj => ⟨fun hn => by simp at hn, fun _ => ⟨by unfold I64; omega, ?_, ?_⟩⟩⟩
    · have hne : Z1 ≠ [] := by rintro rfl; simp at f2; omega
      obtain ⟨A, z, rfl⟩ := snoc_split hne
      simp only [List.length_append, List.length_singleton] at f2 hzl
      have el : P ++ (A ++ [z]) ++ w :: (Z2 ++ W ++ S) = (P ++ A) ++ z :: (w :: (Z2 ++ W ++ S)) := by simp
      have ez : ix (P ++ (A ++ [z]) ++ w :: (Z2 ++ W ++ S)) (j - 1) = z := by rw [el]; exact ix_app (by simp; omega)
      have hin2 : In (j - 1) (P ++ (A ++ [z]) ++ w :: (Z2 ++ W ++ S)) := ⟨by omega, by simp; omega⟩
      have hzi' : isLit nn z = true := hzi z (by rw [f3]; simp)
      refine ⟨hin2, fun _ => ⟨cmpS T w z, by rw [ej, ez]; exact add1_ok hv hwi hzi' rfl, cmpS_i64 T w z, fun hd => ?_, fun hd => ⟨by unfold I64; omega, done (Or.inr ⟨A, z, rfl, ltS_of_not (by simpa using hd) (hw z (by rw [f3]; simp))⟩), by show (b - (i + 1)).toNat < (b - i).toNat; omega⟩⟩⟩
      refine ⟨by unfold I64; omega, by unfold I64; omega, hin2, fun _ => ⟨hin, fun _ => ⟨hin, ⟨by omega, by simp; omega⟩, by unfold I64; omega, ?_, by show (j - 1 - a).toNat < (j - a).toNat; omega⟩⟩⟩
      refine ⟨A, z :: Z2, ?_, by show j - 1 = _; omega, by rw [f3]; simp, fun y hy => ?_⟩
      · show ((P ++ (A ++ [z]) ++ w :: (Z2 ++ W ++ S)).set j.toNat (ix (P ++ (A ++ [z]) ++ w :: (Z2 ++ W ++ S)) (j - 1))).set (j - 1).toNat (ix (P ++ (A ++ [z]) ++ w :: (Z2 ++ W ++ S)) j) = _
        rw [ej, ez, set_app (by simp; omega)]
        have el2 : P ++ (A ++ [z]) ++ z :: (Z2 ++ W ++ S) = (P ++ A) ++ z :: (z :: (Z2 ++ W ++ S)) := by simp
        rw [el2, set_app (by simp; omega)]; simp
      · rcases List.mem_cons.1 hy with rfl | hy
        · exact Or.inl (by simpa using hd)
        · exact f4 y hy
    · have : Z1 = [] := by cases Z1 with
        | nil => rfl
        | cons => simp at f2; omega
      exact done (Or.inl this)
    · show (b - (i + 1)).toNat < (b - i).toNat; omega
  · have hW : W = [] := by cases W with
      | nil => rfl
      | cons w W => simp at e3; omega
    subst hW
    simp at e3
    rw [e3, List.take_length] at e4
    simpa using h Z e4 e6
theorem swapSF_ok {P M S : List Int} {b n : Int} {Q : List Int → Prop} : ∀ {X Y : List Int} {d : List Int} {a : Int}, d = P ++ X ++ M ++ Y ++ S → d.length ≤ 1000000 → a = P.length → b = a + X.length + M.length → n = X.length → n = Y.length →
    Q (P ++ Y ++ M ++ X ++ S) → V_swapSF d a b n nn cs watch value level reason T starts head heat proof dead AA Q := by
  intro X Y d a hd hb ha hb2 hn hn2 h
  subst hd
  simp at hb
  refine ⟨fun s => ∃ X1 X2 Y1 Y2, X = X1 ++ X2 ∧ Y = Y1 ++ Y2 ∧ s.2 = X1.length ∧ s.2 = Y1.length ∧ s.1 = P ++ Y1 ++ X2 ++ M ++ X1 ++ Y2 ++ S, fun s => (n - s.2).toNat, ⟨[], X, [], Y, by simp, by simp, by simp, by simp, by simp⟩, ?_⟩
  rintro ⟨d, i⟩ ⟨X1, X2, Y1, Y2, f1, f2, f3, f4, f5⟩
  simp only at f3 f4 f5
  subst f1 f2 f5
  simp only [List.length_append] at hb hb2 hn hn2
  refine ⟨fun hk => ?_, fun hk => ?_⟩
  · cases X2 with
    | nil => simp at hn; omega
    | cons x X2 =>
    cases Y2 with
    | nil => simp at hn2; omega
    | cons y Y2 =>
    simp only [List.length_cons] at hb hb2 hn hn2
    have l1 : P ++ Y1 ++ x :: X2 ++ M ++ X1 ++ y :: Y2 ++ S = (P ++ Y1) ++ x :: (X2 ++ M ++ X1 ++ y :: (Y2 ++ S)) := by simp
    have l2 : P ++ Y1 ++ x :: X2 ++ M ++ X1 ++ y :: Y2 ++ S = (P ++ Y1 ++ x :: X2 ++ M ++ X1) ++ y :: (Y2 ++ S) := by simp
    have i1 : In (b + i) (P ++ Y1 ++ x :: X2 ++ M ++ X1 ++ y :: Y2 ++ S) := ⟨by omega, by simp; omega⟩
    have i2 : In (a + i) (P ++ Y1 ++ x :: X2 ++ M ++ X1 ++ y :: Y2 ++ S) := ⟨by omega, by simp; omega⟩
    have e1 : ix (P ++ Y1 ++ x :: X2 ++ M ++ X1 ++ y :: Y2 ++ S) (a + i) = x := by rw [l1]; exact ix_app (by simp; omega)
    have e2 : ix (P ++ Y1 ++ x :: X2 ++ M ++ X1 ++ y :: Y2 ++ S) (b + i) = y := by rw [l2]; exact ix_app (by simp; omega)
    refine ⟨by unfold I64; omega, by unfold I64; omega, by unfold I64; omega, i1, fun _ => ⟨by unfold I64; omega, i2, fun _ => ⟨i2, ⟨by omega, by simp; omega⟩, by unfold I64; omega, ?_, by show (n - (i + 1)).toNat < (n - i).toNat; omega⟩⟩⟩
    refine ⟨X1 ++ [x], X2, Y1 ++ [y], Y2, by simp, by simp, by simp; omega, by simp; omega, ?_⟩
    show ((P ++ Y1 ++ x :: X2 ++ M ++ X1 ++ y :: Y2 ++ S).set (a + i).toNat (ix (P ++ Y1 ++ x :: X2 ++ M ++ X1 ++ y :: Y2 ++ S) (b + i))).set (b + i).toNat (ix (P ++ Y1 ++ x :: X2 ++ M ++ X1 ++ y :: Y2 ++ S) (a + i)) = _
    rw [e1, e2, l1, set_app (by simp; omega)]
    have l3 : (P ++ Y1) ++ y :: (X2 ++ M ++ X1 ++ y :: (Y2 ++ S)) = (P ++ Y1 ++ y :: (X2 ++ M ++ X1)) ++ y :: (Y2 ++ S) := by simp
    rw [l3, set_app (by simp; omega)]; simp
  · have hX : X2 = [] := by cases X2 with
      | nil => rfl
      | cons => simp at hn; omega
    have hY : Y2 = [] := by cases Y2 with
      | nil => rfl
      | cons => simp at hn2; omega
    subst hX hY
    simpa using h
theorem rotSF_ok {P X Y S : List Int} {a m b : Int} {Q : List Int → Prop} (hb : (P ++ X ++ Y ++ S).length ≤ 1000000) (ha : a = P.length) (hm : m = a + X.length) (hb2 : b = m + Y.length) (hX : X ≠ []) (hY : Y ≠ [])
    (h : Q (P ++ Y ++ X ++ S)) : V_rotSF (P ++ X ++ Y ++ S) a m b nn cs watch value level reason T starts head heat proof dead AA Q := by
  have pX : 1 ≤ X.length := List.length_pos_iff.2 hX
  have pY : 1 ≤ Y.length := List.length_pos_iff.2 hY
  simp at hb
  refine ⟨by unfold I64; omega, by unfold I64; omega, ?_⟩
  refine ⟨fun s => ∃ P' X' Y' S', s.1 = P' ++ X' ++ Y' ++ S' ∧ s.2.1 = X'.length ∧ s.2.2 = Y'.length ∧ 1 ≤ X'.length ∧ 1 ≤ Y'.length ∧ m = P'.length + X'.length ∧ P' ++ Y' ++ X' ++ S' = P ++ Y ++ X ++ S, fun s => (s.2.1 + s.2.2).toNat, ⟨P, X, Y, S, rfl, by simp; omega, by simp; omega, pX, pY, by omega, rfl⟩, ?_⟩
  rintro ⟨d, i, j⟩ ⟨P', X', Y', S', f1, f2, f3, f4, f5, f6, f7⟩
  simp only at f1 f2 f3
  subst f1
  have hl := congrArg List.length f7
  simp at hl
  refine ⟨fun hne => ⟨fun hlt => ⟨by unfold I64; omega, ?_⟩, fun hlt => ⟨by unfold I64; omega, by unfold I64; omega, by unfold I64; omega, ?_⟩⟩, fun heq => ⟨by unfold I64; omega, ?_⟩⟩
  · have e : X' = X'.take Y'.length ++ X'.drop Y'.length := by rw [List.take_append_drop]
    have l1 : (X'.take Y'.length).length = Y'.length := by simp; omega
    have l2 : (X'.drop Y'.length).length = X'.length - Y'.length := by simp
    revert e l1 l2
    generalize X'.take Y'.length = A; generalize X'.drop Y'.length = B
    intro e l1 l2
    refine swapSF_ok (P := P') (X := A) (M := B) (Y := Y') (S := S') (by rw [e]; simp) (by simp; omega) (by omega) (by omega) (by omega) (by omega) ⟨by unfold I64; omega, ⟨P' ++ Y', B, A, S', by simp, by show i - j = _; omega, by show j = _; omega, by omega, by omega, by simp; omega, ?_⟩, by show (i - j + j).toNat < (i + j).toNat; omega⟩
    rw [← f7, e]; simp
  · have e : Y' = Y'.take (Y'.length - X'.length) ++ Y'.drop (Y'.length - X'.length) := by rw [List.take_append_drop]
    have l1 : (Y'.take (Y'.length - X'.length)).length = Y'.length - X'.length := by simp
    have l2 : (Y'.drop (Y'.length - X'.length)).length = X'.length := by simp; omega
    revert e l1 l2
    generalize Y'.take (Y'.length - X'.length) = A; generalize Y'.drop (Y'.length - X'.length) = B
    intro e l1 l2
    refine swapSF_ok (P := P') (X := X') (M := A) (Y := B) (S := S') (by rw [e]; simp) (by simp; omega) (by omega) (by omega) (by omega) (by omega) ⟨by unfold I64; omega, ⟨P', B, A, X' ++ S', by simp, by show i = _; omega, by show j - i = _; omega, by omega, by omega, by omega, ?_⟩, by show (i + (j - i)).toNat < (i + j).toNat; omega⟩
    rw [← f7, e]; simp
  · refine swapSF_ok (P := P') (X := X') (M := []) (Y := Y') (S := S') (by simp) (by simp; omega) (by omega) (by simp; omega) (by omega) (by omega) ?_
    rw [List.append_nil, f7]; exact h
/-- Runs of two that are in order make one. -/
theorem sort_app {A B : List Int} (hA : A.Pairwise (ltS T)) (hB : B.Pairwise (ltS T)) (h : A = [] ∨ B = [] ∨ ∃ A' x y B', A = A' ++ [x] ∧ B = y :: B' ∧ ltS T x y) : (A ++ B).Pairwise (ltS T) := by
  rcases h with rfl | rfl | ⟨A', x, y, B', rfl, rfl, h⟩
  · simpa using hB
  · simpa using hA
  · refine List.pairwise_append.2 ⟨hA, hB, fun u hu v hv => ?_⟩
    have h1 : ltS T u y := by
      rcases List.mem_append.1 hu with hu | hu
      · exact ((List.pairwise_append.1 hA).2.2 u hu x (by simp)).trans h
      · rw [List.mem_singleton.1 hu]; exact h
    rcases List.mem_cons.1 hv with rfl | hv
    · exact h1
    · exact h1.trans ((List.pairwise_cons.1 hB).1 v hv)
theorem symSF_ok (hv : TI nn value level reason T starts Cl) : ∀ (f : Nat) {P X Y S : List Int} {a m b : Int} {Q : List Int → Prop}, X.length + Y.length < f → (P ++ X ++ Y ++ S).length ≤ 1000000 → a = P.length → m = a + X.length → b = m + Y.length → X ≠ [] → Y ≠ [] →
    Inds nn X → Inds nn Y → X.Pairwise (ltS T) → Y.Pairwise (ltS T) → (∀ x ∈ X, ∀ y ∈ Y, x < y) → (∀ Z, Z.Perm (X ++ Y) → Z.Pairwise (ltS T) → Q (P ++ Z ++ S)) → V_symSF f (P ++ X ++ Y ++ S) a m b nn cs watch value level reason T starts head heat proof dead AA Q
  | 0, _, _, _, _, _, _, _, _, h, _, _, _, _, _, _, _, _, _, _, _, _ => absurd h (by omega)
  | f + 1, P, X, Y, S, a, m, b, Q, hf, hb, ha, hm, hb2, hX, hY, iX, iY, sX, sY, hxy, h => by
    have pX : 1 ≤ X.length := List.length_pos_iff.2 hX
    have pY : 1 ≤ Y.length := List.length_pos_iff.2 hY
    simp at hb
    unfold V_symSF
    refine ⟨by unfold I64; omega, fun h1 => ?_, fun h1 => ⟨by unfold I64; omega, fun h2 => ?_, fun h2 => ?_⟩⟩
    · -- one ahead
      obtain ⟨x, rfl⟩ : ∃ x, X = [x] := by
        match X, pX, (by omega : X.length = 1) with
        | [x], _, _ => exact ⟨x, rfl⟩
      have ex : ix (P ++ [x] ++ Y ++ S) a = x := by rw [show P ++ [x] ++ Y ++ S = P ++ x :: (Y ++ S) by simp]; exact ix_app (by omega)
      have ia : In a (P ++ [x] ++ Y ++ S) := ⟨by omega, by simp; omega⟩
      have gY : ∀ k : Int, m ≤ k → k < b → ∃ A y B, Y = A ++ y :: B ∧ k = m + A.length ∧ ix (P ++ [x] ++ Y ++ S) k = y ∧ In k (P ++ [x] ++ Y ++ S) := fun k k0 k1 => by
        obtain ⟨A, y, B, e, hl⟩ := app_split (l := Y) (i := k - m) (by omega) (by omega)
        refine ⟨A, y, B, e, by omega, ?_, ⟨by omega, by simp; omega⟩⟩
        rw [e, show P ++ [x] ++ (A ++ y :: B) ++ S = (P ++ [x] ++ A) ++ y :: (B ++ S) by simp]; exact ix_app (by simp; simp at hm; omega)
      refine ⟨fun s => m ≤ s.1 ∧ s.1 ≤ s.2 ∧ s.2 ≤ b ∧ (s.1 = m ∨ ∃ A y B, Y = A ++ y :: B ∧ s.1 = m + A.length + 1 ∧ ltS T y x) ∧ (s.2 = b ∨ ∃ A y B, Y = A ++ y :: B ∧ s.2 = m + A.length ∧ ltS T x y), fun s => (s.2 - s.1).toNat, ⟨by simp, by simp; omega, by simp, Or.inl rfl, Or.inl rfl⟩, ?_⟩
      rintro ⟨i, j⟩ ⟨g1, g2, g3, g4, g5⟩
      simp only at g1 g2 g3 g4 g5
      refine ⟨fun hij => ?_, fun hij => ?_⟩
      · rw [half_wrap (by omega) (by omega)]
        obtain ⟨A, y, B, e, hk, ey, hin⟩ := gY ((i + j) / 2) (by omega) (by omega)
        have my : y ∈ Y := by rw [e]; simp
        refine ⟨by unfold I64; omega, hin, fun _ => ⟨ia, fun _ => ?_⟩⟩
        rw [ey, ex]
        refine ⟨_, add1_ok hv (iY y my) (iX x (by simp)) rfl, cmpS_i64 T _ _, fun hl => ⟨by unfold I64; omega, ⟨by show m ≤ _; omega, by show (i + j) / 2 + 1 ≤ j; omega, g3, Or.inr ⟨A, y, B, e, by show (i + j) / 2 + 1 = _; omega, Or.inl hl⟩, g5⟩, by show (j - ((i + j) / 2 + 1)).toNat < (j - i).toNat; omega⟩, fun hl => ⟨⟨g1, by show i ≤ (i + j) / 2; omega, by show (i + j) / 2 ≤ b; omega, g4, Or.inr ⟨A, y, B, e, hk, ltS_of_not hl (hxy x (by simp) y my)⟩⟩, by show ((i + j) / 2 - i).toNat < (j - i).toNat; omega⟩⟩
      · have hij : i = j := by omega
        subst hij
        obtain ⟨A, B, e, hl⟩ : ∃ A B, Y = A ++ B ∧ i = m + A.length := ⟨Y.take (i - m).toNat, Y.drop (i - m).toNat, by rw [List.take_append_drop], by simp; omega⟩
        subst e
        simp only [List.length_append] at hb hb2 hf pY
        have done : Q (P ++ (A ++ [x] ++ B) ++ S) := by
          refine h _ (by simp) ?_
          obtain ⟨qA, qB, qAB⟩ := List.pairwise_append.1 sY
          have qx : (A ++ [x]).Pairwise (ltS T) := sort_app qA (by simp) (by
            by_cases hA : A = []
            · exact Or.inl hA
            · obtain ⟨A', y, rfl⟩ := snoc_split hA
              rcases g4 with g4 | ⟨A2, y2, B2, e2, g4, g6⟩
              · simp at hl; omega
              · refine Or.inr (Or.inr ⟨A', y, x, [], rfl, rfl, ?_⟩)
                simp at hl
                have : A' ++ y :: B = A2 ++ y2 :: B2 := by rw [← e2]; simp
                have := List.append_inj this (by omega)
                simp at this; rw [this.2.1]; exact g6)
          refine sort_app qx qB ?_
          by_cases hB : B = []
          · exact Or.inr (Or.inl hB)
          · obtain ⟨y, B', rfl⟩ : ∃ y B', B = y :: B' := List.exists_cons_of_ne_nil hB
            rcases g5 with g5 | ⟨A2, y2, B2, e2, g5, g6⟩
            · simp at hb2; omega
            · refine Or.inr (Or.inr ⟨A, x, y, B', rfl, rfl, ?_⟩)
              have := List.append_inj e2 (by omega)
              simp at this; rw [this.2.1]; exact g6
        refine ⟨fun s => ∃ A1 A2, A = A1 ++ A2 ∧ s.1 = P ++ A1 ++ x :: (A2 ++ B ++ S) ∧ s.2 = a + A1.length, fun s => (i - s.2).toNat, ⟨[], A, by simp, by simp, by simp⟩, ?_⟩
        rintro ⟨d, k⟩ ⟨A1, A2, f1, f2, f3⟩
        simp only at f2 f3
        subst f1 f2
        simp at hm
        simp only [List.length_append] at hl hb hb2
        refine ⟨by unfold I64; omega, fun hk => ?_, fun hk => ?_⟩
        · cases A2 with
          | nil => simp at hl; omega
          | cons y A2 =>
          simp only [List.length_cons] at hl hb hb2
          have e1 : ix (P ++ A1 ++ x :: (y :: A2 ++ B ++ S)) k = x := ix_app (by simp; omega)
          have l2 : P ++ A1 ++ x :: (y :: A2 ++ B ++ S) = (P ++ A1 ++ [x]) ++ y :: (A2 ++ B ++ S) := by simp
          have e2 : ix (P ++ A1 ++ x :: (y :: A2 ++ B ++ S)) (k + 1) = y := by rw [l2]; exact ix_app (by simp; omega)
          have i1 : In k (P ++ A1 ++ x :: (y :: A2 ++ B ++ S)) := ⟨by omega, by simp; omega⟩
          have i2 : In (k + 1) (P ++ A1 ++ x :: (y :: A2 ++ B ++ S)) := ⟨by omega, by simp; omega⟩
          refine ⟨by unfold I64; omega, by unfold I64; omega, i2, fun _ => ⟨i1, fun _ => ⟨i1, ⟨by omega, by simp; omega⟩, by unfold I64; omega, ⟨A1 ++ [y], A2, by simp, ?_, by simp; omega⟩, by show (i - (k + 1)).toNat < (i - k).toNat; omega⟩⟩⟩
          show ((P ++ A1 ++ x :: (y :: A2 ++ B ++ S)).set k.toNat (ix (P ++ A1 ++ x :: (y :: A2 ++ B ++ S)) (k + 1))).set (k + 1).toNat (ix (P ++ A1 ++ x :: (y :: A2 ++ B ++ S)) k) = _
          rw [e1, e2, set_app (by simp; omega)]
          have l3 : P ++ A1 ++ y :: (y :: A2 ++ B ++ S) = (P ++ A1 ++ [y]) ++ y :: (A2 ++ B ++ S) := by simp
          rw [l3, set_app (by simp; omega)]; simp
        · have : A2 = [] := by cases A2 with
            | nil => rfl
            | cons => simp at hl; omega
          subst this
          simpa using done
    · -- one behind
      obtain ⟨y, rfl⟩ : ∃ y, Y = [y] := by
        match Y, pY, (by omega : Y.length = 1) with
        | [y], _, _ => exact ⟨y, rfl⟩
      have ey : ix (P ++ X ++ [y] ++ S) m = y := by rw [show P ++ X ++ [y] ++ S = (P ++ X) ++ y :: S by simp]; exact ix_app (by simp; omega)
      have im : In m (P ++ X ++ [y] ++ S) := ⟨by omega, by simp; omega⟩
      have gX : ∀ k : Int, a ≤ k → k < m → ∃ A x B, X = A ++ x :: B ∧ k = a + A.length ∧ ix (P ++ X ++ [y] ++ S) k = x ∧ In k (P ++ X ++ [y] ++ S) := fun k k0 k1 => by
        obtain ⟨A, x, B, e, hl⟩ := app_split (l := X) (i := k - a) (by omega) (by omega)
        refine ⟨A, x, B, e, by omega, ?_, ⟨by omega, by simp; omega⟩⟩
        rw [e, show P ++ (A ++ x :: B) ++ [y] ++ S = (P ++ A) ++ x :: (B ++ [y] ++ S) by simp]; exact ix_app (by simp; omega)
      refine ⟨fun s => a ≤ s.1 ∧ s.1 ≤ s.2 ∧ s.2 ≤ m ∧ (s.1 = a ∨ ∃ A x B, X = A ++ x :: B ∧ s.1 = a + A.length + 1 ∧ ltS T x y) ∧ (s.2 = m ∨ ∃ A x B, X = A ++ x :: B ∧ s.2 = a + A.length ∧ ltS T y x), fun s => (s.2 - s.1).toNat, ⟨by simp, by simp; omega, by simp, Or.inl rfl, Or.inl rfl⟩, ?_⟩
      rintro ⟨i, j⟩ ⟨g1, g2, g3, g4, g5⟩
      simp only at g1 g2 g3 g4 g5
      refine ⟨fun hij => ?_, fun hij => ?_⟩
      · rw [half_wrap (by omega) (by omega)]
        obtain ⟨A, x, B, e, hk, ex, hin⟩ := gX ((i + j) / 2) (by omega) (by omega)
        have mx : x ∈ X := by rw [e]; simp
        refine ⟨by unfold I64; omega, im, fun _ => ⟨hin, fun _ => ?_⟩⟩
        rw [ex, ey]
        refine ⟨_, add1_ok hv (iY y (by simp)) (iX x mx) rfl, cmpS_i64 T _ _, fun hl => ⟨by unfold I64; omega, ⟨by show a ≤ _; omega, by show (i + j) / 2 + 1 ≤ j; omega, g3, Or.inr ⟨A, x, B, e, by show (i + j) / 2 + 1 = _; omega, ltS_of_not hl (hxy x mx y (by simp))⟩, g5⟩, by show (j - ((i + j) / 2 + 1)).toNat < (j - i).toNat; omega⟩, fun hl => ⟨⟨g1, by show i ≤ (i + j) / 2; omega, by show (i + j) / 2 ≤ m; omega, g4, Or.inr ⟨A, x, B, e, hk, Or.inl hl⟩⟩, by show ((i + j) / 2 - i).toNat < (j - i).toNat; omega⟩⟩
      · have hij : i = j := by omega
        subst hij
        obtain ⟨A, B, e, hl⟩ : ∃ A B, X = A ++ B ∧ i = a + A.length := ⟨X.take (i - a).toNat, X.drop (i - a).toNat, by rw [List.take_append_drop], by simp; omega⟩
        subst e
        simp only [List.length_append] at hb hm hf pX
        have done : Q (P ++ (A ++ [y] ++ B) ++ S) := by
          refine h _ ?_ ?_
          · have : (A ++ [y] ++ B).Perm (A ++ (B ++ [y])) := by
              rw [List.append_assoc]; exact List.Perm.append_left A List.perm_append_comm
            simpa using this
          obtain ⟨qA, qB, qAB⟩ := List.pairwise_append.1 sX
          have qx : (A ++ [y]).Pairwise (ltS T) := sort_app qA (by simp) (by
            by_cases hA : A = []
            · exact Or.inl hA
            · obtain ⟨A', x, rfl⟩ := snoc_split hA
              rcases g4 with g4 | ⟨A2, x2, B2, e2, g4, g6⟩
              · simp at hl; omega
              · refine Or.inr (Or.inr ⟨A', x, y, [], rfl, rfl, ?_⟩)
                simp at hl
                have : A' ++ x :: B = A2 ++ x2 :: B2 := by rw [← e2]; simp
                have := List.append_inj this (by omega)
                simp at this; rw [this.2.1]; exact g6)
          refine sort_app qx qB ?_
          by_cases hB : B = []
          · exact Or.inr (Or.inl hB)
          · obtain ⟨x, B', rfl⟩ : ∃ x B', B = x :: B' := List.exists_cons_of_ne_nil hB
            rcases g5 with g5 | ⟨A2, x2, B2, e2, g5, g6⟩
            · simp at hm; omega
            · refine Or.inr (Or.inr ⟨A, y, x, B', rfl, rfl, ?_⟩)
              have := List.append_inj e2 (by omega)
              simp at this; rw [this.2.1]; exact g6
        refine ⟨fun s => ∃ B1 B2, B = B1 ++ B2 ∧ s.1 = P ++ A ++ B1 ++ y :: (B2 ++ S) ∧ s.2 = i + B1.length, fun s => (s.2 - i).toNat, ⟨B, [], by simp, by simp, by simp; omega⟩, ?_⟩
        rintro ⟨d, k⟩ ⟨B1, B2, f1, f2, f3⟩
        simp only at f2 f3
        subst f1 f2
        simp only [List.length_append] at hm hb
        refine ⟨fun hk => ?_, fun hk => ?_⟩
        · have hne : B1 ≠ [] := by rintro rfl; simp at f3; omega
          obtain ⟨B1, x, rfl⟩ := snoc_split hne
          simp only [List.length_append, List.length_singleton] at f3 hb hm
          have l1 : P ++ A ++ (B1 ++ [x]) ++ y :: (B2 ++ S) = (P ++ A ++ B1) ++ x :: (y :: (B2 ++ S)) := by simp
          have e1 : ix (P ++ A ++ (B1 ++ [x]) ++ y :: (B2 ++ S)) k = y := ix_app (by simp; omega)
          have e2 : ix (P ++ A ++ (B1 ++ [x]) ++ y :: (B2 ++ S)) (k - 1) = x := by rw [l1]; exact ix_app (by simp; omega)
          have i1 : In k (P ++ A ++ (B1 ++ [x]) ++ y :: (B2 ++ S)) := ⟨by omega, by simp; omega⟩
          have i2 : In (k - 1) (P ++ A ++ (B1 ++ [x]) ++ y :: (B2 ++ S)) := ⟨by omega, by simp; omega⟩
          refine ⟨by unfold I64; omega, by unfold I64; omega, i2, fun _ => ⟨i1, fun _ => ⟨i1, ⟨by omega, by simp; omega⟩, by unfold I64; omega, ⟨B1, x :: B2, by simp, ?_, by show k - 1 = _; omega⟩, by show (k - 1 - i).toNat < (k - i).toNat; omega⟩⟩⟩
          show ((P ++ A ++ (B1 ++ [x]) ++ y :: (B2 ++ S)).set k.toNat (ix (P ++ A ++ (B1 ++ [x]) ++ y :: (B2 ++ S)) (k - 1))).set (k - 1).toNat (ix (P ++ A ++ (B1 ++ [x]) ++ y :: (B2 ++ S)) k) = _
          rw [e1, e2, set_app (by simp; omega)]
          have l3 : P ++ A ++ (B1 ++ [x]) ++ x :: (B2 ++ S) = (P ++ A ++ B1) ++ x :: (x :: (B2 ++ S)) := by simp
          rw [l3, set_app (by simp; omega)]; simp
        · have : B1 = [] := by cases B1 with
            | nil => rfl
            | cons => simp at f3; omega
          subst this
          simpa using done
    · -- two and more on both sides
      rw [half_wrap (by omega) (by omega)]
      obtain ⟨mid, hmid⟩ : ∃ mid, (a + b) / 2 = mid := ⟨_, rfl⟩
      rw [hmid]
      have gX : ∀ k : Int, a ≤ k → k < m → ∃ A x B, X = A ++ x :: B ∧ k = a + A.length ∧ ix (P ++ X ++ Y ++ S) k = x ∧ In k (P ++ X ++ Y ++ S) := fun k k0 k1 => by
        obtain ⟨A, x, B, e, hl⟩ := app_split (l := X) (i := k - a) (by omega) (by omega)
        refine ⟨A, x, B, e, by omega, ?_, ⟨by omega, by simp; omega⟩⟩
        rw [e, show P ++ (A ++ x :: B) ++ Y ++ S = (P ++ A) ++ x :: (B ++ Y ++ S) by simp]; exact ix_app (by simp; omega)
      have gY : ∀ k : Int, m ≤ k → k < b → ∃ A y B, Y = A ++ y :: B ∧ k = m + A.length ∧ ix (P ++ X ++ Y ++ S) k = y ∧ In k (P ++ X ++ Y ++ S) := fun k k0 k1 => by
        obtain ⟨A, y, B, e, hl⟩ := app_split (l := Y) (i := k - m) (by omega) (by omega)
        refine ⟨A, y, B, e, by omega, ?_, ⟨by omega, by simp; omega⟩⟩
        rw [e, show P ++ X ++ (A ++ y :: B) ++ S = (P ++ X ++ A) ++ y :: (B ++ S) by simp]; exact ix_app (by simp; omega)
      -- where the search begins
      have main : ∀ s0 r0 : Int, (s0 = a ∨ mid + m - s0 = b) → (r0 = m ∨ mid + m - r0 = m) → a ≤ s0 → s0 ≤ r0 → r0 ≤ m → r0 ≤ mid → mid + m - s0 ≤ b →
          VLoop (σ := Int × Int) (s0, r0) fun (start_824, r_826) xnext_885 =>
            (start_824 < r_826 →
            I64 (start_824 + r_826) ∧
            I64 (((mid + m) - (1 : Int)) - (IntKind.i64.wrap ((IntKind.u64.wrap (start_824 + r_826)) / 2))) ∧
            In (((mid + m) - (1 : Int)) - (IntKind.i64.wrap ((IntKind.u64.wrap (start_824 + r_826)) / 2))) (P ++ X ++ Y ++ S) ∧
            (I64 (ix (P ++ X ++ Y ++ S) (((mid + m) - (1 : Int)) - (IntKind.i64.wrap ((IntKind.u64.wrap (start_824 + r_826)) / 2)))) →
            In (IntKind.i64.wrap ((IntKind.u64.wrap (start_824 + r_826)) / 2)) (P ++ X ++ Y ++ S) ∧
            (I64 (ix (P ++ X ++ Y ++ S) (IntKind.i64.wrap ((IntKind.u64.wrap (start_824 + r_826)) / 2))) →
            ∃ (r_929 : Int), V_add1 (ix (P ++ X ++ Y ++ S) (((mid + m) - (1 : Int)) - (IntKind.i64.wrap ((IntKind.u64.wrap (start_824 + r_826)) / 2)))) (ix (P ++ X ++ Y ++ S) (IntKind.i64.wrap ((IntKind.u64.wrap (start_824 + r_826)) / 2))) nn cs watch value level reason T starts head heat proof dead AA (fun y0 => y0 = r_929) ∧ I64 r_929 ∧
            (¬ (r_929 < (0 : Int)) →
            I64 ((IntKind.i64.wrap ((IntKind.u64.wrap (start_824 + r_826)) / 2)) + (1 : Int)) ∧
            xnext_885 (((IntKind.i64.wrap ((IntKind.u64.wrap (start_824 + r_826)) / 2)) + (1 : Int)), r_826)) ∧
            (r_929 < (0 : Int) →
            xnext_885 (start_824, (IntKind.i64.wrap ((IntKind.u64.wrap (start_824 + r_826)) / 2))))))) ∧
            (¬ (start_824 < r_826) →
            I64 ((mid + m) - start_824) ∧
            VMeet (σ := LI) (fun data_952 =>
            VMeet (σ := LI) (fun data_977 =>
            ((mid < ((mid + m) - start_824)) ∧ (((mid + m) - start_824) < b) →
            V_symSF f data_977 mid ((mid + m) - start_824) b nn cs watch value level reason T starts head heat proof dead AA fun c_997 =>
            Q c_997) ∧
            (¬ ((mid < ((mid + m) - start_824)) ∧ (((mid + m) - start_824) < b)) →
            Q data_977)) fun J_980 =>
            ((a < start_824) ∧ (start_824 < mid) →
            V_symSF f data_952 a start_824 mid nn cs watch value level reason T starts head heat proof dead AA fun c_987 =>
            J_980 c_987) ∧
            (¬ ((a < start_824) ∧ (start_824 < mid)) →
            J_980 data_952)) fun J_955 =>
            ((start_824 < m) ∧ (m < ((mid + m) - start_824)) →
            V_rotSF (P ++ X ++ Y ++ S) start_824 m ((mid + m) - start_824) nn cs watch value level reason T starts head heat proof dead AA fun c_962 =>
            J_955 c_962) ∧
            (¬ ((start_824 < m) ∧ (m < ((mid + m) - start_824))) →
            J_955 (P ++ X ++ Y ++ S))) := by
        intro s0 r0 h0 h1' z1 z2 z3 z4 z5
        refine ⟨fun s => s0 ≤ s.1 ∧ s.1 ≤ s.2 ∧ s.2 ≤ r0 ∧ (s.1 = s0 ∨ ∃ A x B A' y B', X = A ++ x :: B ∧ s.1 = a + A.length + 1 ∧ Y = A' ++ y :: B' ∧ mid + m - s.1 = m + A'.length ∧ ltS T x y) ∧ (s.2 = r0 ∨ ∃ A x B A' y B', X = A ++ x :: B ∧ s.2 = a + A.length ∧ Y = A' ++ y :: B' ∧ mid + m - s.2 = m + A'.length + 1 ∧ ltS T y x), fun s => (s.2 - s.1).toNat, ⟨by simp, by simpa using z2, by simp, Or.inl rfl, Or.inl rfl⟩, ?_⟩
        rintro ⟨i, j⟩ ⟨g1, g2, g3, g4, g5⟩
        simp only at g1 g2 g3 g4 g5
        refine ⟨fun hij => ?_, fun hij => ?_⟩
        · rw [half_wrap (by omega) (by omega)]
          obtain ⟨A, x, B, e, hk, ex, hin⟩ := gX ((i + j) / 2) (by omega) (by omega)
          obtain ⟨A', y, B', e', hk', ey, hin'⟩ := gY (mid + m - 1 - (i + j) / 2) (by omega) (by omega)
          have mx : x ∈ X := by rw [e]; simp
          have my : y ∈ Y := by rw [e']; simp
          refine ⟨by unfold I64; omega, by unfold I64; omega, hin', fun _ => ⟨hin, fun _ => ?_⟩⟩
          rw [ex, ey]
          refine ⟨_, add1_ok hv (iY y my) (iX x mx) rfl, cmpS_i64 T _ _, fun hl => ⟨by unfold I64; omega, ⟨by show s0 ≤ _; omega, by show (i + j) / 2 + 1 ≤ j; omega, g3, Or.inr ⟨A, x, B, A', y, B', e, by show (i + j) / 2 + 1 = _; omega, e', by show mid + m - ((i + j) / 2 + 1) = _; omega, ltS_of_not hl (hxy x mx y my)⟩, g5⟩, by show (j - ((i + j) / 2 + 1)).toNat < (j - i).toNat; omega⟩, fun hl => ⟨⟨g1, by show i ≤ (i + j) / 2; omega, by show (i + j) / 2 ≤ r0; omega, g4, Or.inr ⟨A, x, B, A', y, B', e, hk, e', by show mid + m - (i + j) / 2 = _; omega, Or.inl hl⟩⟩, by show ((i + j) / 2 - i).toNat < (j - i).toNat; omega⟩⟩
        · have hij : i = j := by omega
          subst hij
          refine ⟨by unfold I64; omega, ?_⟩
          obtain ⟨A1, A2, eX, lA⟩ : ∃ A B, X = A ++ B ∧ i = a + A.length := ⟨X.take (i - a).toNat, X.drop (i - a).toNat, by rw [List.take_append_drop], by simp; omega⟩
          obtain ⟨B1, B2, eY, lB⟩ : ∃ A B, Y = A ++ B ∧ mid + m - i = m + A.length := ⟨Y.take (mid - i).toNat, Y.drop (mid - i).toNat, by rw [List.take_append_drop], by simp; omega⟩
          subst eX eY
          simp only [List.length_append] at hb hm hb2 hf pX pY
          obtain ⟨qA1, qA2, qA⟩ := List.pairwise_append.1 sX
          obtain ⟨qB1, qB2, qB⟩ := List.pairwise_append.1 sY
          -- the first part's first ones are ahead of the second part's last ones
          have c1 : (A1 ++ B2).Pairwise (ltS T) := sort_app qA1 qB2 (by
            by_cases hA : A1 = []
            · exact Or.inl hA
            by_cases hB : B2 = []
            · exact Or.inr (Or.inl hB)
            obtain ⟨A', x, rfl⟩ := snoc_split hA
            obtain ⟨y, B', rfl⟩ : ∃ y B', B2 = y :: B' := List.exists_cons_of_ne_nil hB
            simp at lA hb2
            rcases g4 with g4 | ⟨A3, x3, A4, B3, y3, B4, e3, g6, e4, g7, g8⟩
            · omega
            · refine Or.inr (Or.inr ⟨A', x, y, B', rfl, rfl, ?_⟩)
              have t1 : A' ++ x :: A2 = A3 ++ x3 :: A4 := by rw [← e3]; simp
              have t1 := List.append_inj t1 (by omega)
              have t2 := List.append_inj e4 (by omega)
              simp at t1 t2; rw [t1.2.1, t2.2.1]; exact g8)
          have c2 : (B1 ++ A2).Pairwise (ltS T) := sort_app qB1 qA2 (by
            by_cases hA : B1 = []
            · exact Or.inl hA
            by_cases hB : A2 = []
            · exact Or.inr (Or.inl hB)
            obtain ⟨B', y, rfl⟩ := snoc_split hA
            obtain ⟨x, A', rfl⟩ : ∃ x A', A2 = x :: A' := List.exists_cons_of_ne_nil hB
            simp at lB hm
            rcases g5 with g5 | ⟨A3, x3, A4, B3, y3, B4, e3, g6, e4, g7, g8⟩
            · omega
            · refine Or.inr (Or.inr ⟨B', y, x, A', rfl, rfl, ?_⟩)
              have t2 : B' ++ y :: B2 = B3 ++ y3 :: B4 := by rw [← e4]; simp
              have t2 := List.append_inj t2 (by omega)
              have t1 := List.append_inj e3 (by omega)
              simp at t1 t2; rw [t1.2.1, t2.2.1]; exact g8)
          clear g4 g5
          have fin : ∀ Z1 Z2, Z1.Perm (A1 ++ B1) → Z1.Pairwise (ltS T) → Z2.Perm (A2 ++ B2) → Z2.Pairwise (ltS T) → Q (P ++ (Z1 ++ Z2) ++ S) := fun Z1 Z2 p1 s1 p2 s2 => by
            refine h _ ?_ (List.pairwise_append.2 ⟨s1, s2, fun u hu w hw => ?_⟩)
            · refine (List.Perm.append p1 p2).trans ?_
              have : (A1 ++ B1 ++ (A2 ++ B2)).Perm (A1 ++ (A2 ++ (B1 ++ B2))) := by
                rw [List.append_assoc]; refine List.Perm.append_left A1 ?_
                rw [← List.append_assoc, ← List.append_assoc]; exact List.Perm.append_right B2 List.perm_append_comm
              simpa using this
            · rcases List.mem_append.1 (p1.mem_iff.1 hu) with hu | hu <;> rcases List.mem_append.1 (p2.mem_iff.1 hw) with hw | hw
              · exact qA u hu w hw
              · exact (List.pairwise_append.1 c1).2.2 u hu w hw
              · exact (List.pairwise_append.1 c2).2.2 u hu w hw
              · exact qB u hu w hw
          -- behind the turning
          have stage2 : ∀ Z1, Z1.Perm (A1 ++ B1) → Z1.Pairwise (ltS T) →
              ((mid < ((mid + m) - i)) ∧ (((mid + m) - i) < b) → V_symSF f (P ++ Z1 ++ A2 ++ B2 ++ S) mid ((mid + m) - i) b nn cs watch value level reason T starts head heat proof dead AA fun c_997 => Q c_997) ∧ (¬ ((mid < ((mid + m) - i)) ∧ (((mid + m) - i) < b)) → Q (P ++ Z1 ++ A2 ++ B2 ++ S)) := fun Z1 p1 s1 => by
            have l1 : Z1.length = A1.length + B1.length := by rw [p1.length_eq]; simp
            refine ⟨fun hc => ?_, fun hc => ?_⟩
            · refine symSF_ok hv f (P := P ++ Z1) (X := A2) (Y := B2) (S := S) (by omega) (by simp; omega) (by simp; omega) (by omega) (by omega) (by rintro rfl; simp at hm; omega) (by rintro rfl; simp at hb2; omega) (fun x hx => iX x (by simp [hx])) (fun x hx => iY x (by simp [hx])) qA2 qB2 (fun x hx y hy => hxy x (by simp [hx]) y (by simp [hy])) (fun Z2 p2 s2 => ?_)
              simpa using fin Z1 Z2 p1 s1 p2 s2
            · have : A2 = [] ∨ B2 = [] := by
                by_cases hA : A2 = []
                · exact Or.inl hA
                · right; have := List.length_pos_iff.2 hA
                  cases B2 with
                  | nil => rfl
                  | cons => simp at hb2; omega
              have := fin Z1 (A2 ++ B2) p1 s1 (List.Perm.refl _) (sort_app qA2 qB2 (this.elim Or.inl fun h => Or.inr (Or.inl h)))
              simpa using this
          have stage1 : ((a < i) ∧ (i < mid) → V_symSF f (P ++ A1 ++ B1 ++ (A2 ++ B2 ++ S)) a i mid nn cs watch value level reason T starts head heat proof dead AA fun c_987 => ((mid < ((mid + m) - i)) ∧ (((mid + m) - i) < b) → V_symSF f c_987 mid ((mid + m) - i) b nn cs watch value level reason T starts head heat proof dead AA fun c_997 => Q c_997) ∧ (¬ ((mid < ((mid + m) - i)) ∧ (((mid + m) - i) < b)) → Q c_987)) ∧ (¬ ((a < i) ∧ (i < mid)) → ((mid < ((mid + m) - i)) ∧ (((mid + m) - i) < b) → V_symSF f (P ++ A1 ++ B1 ++ (A2 ++ B2 ++ S)) mid ((mid + m) - i) b nn cs watch value level reason T starts head heat proof dead AA fun c_997 => Q c_997) ∧ (¬ ((mid < ((mid + m) - i)) ∧ (((mid + m) - i) < b)) → Q (P ++ A1 ++ B1 ++ (A2 ++ B2 ++ S)))) := by
            refine ⟨fun hc => ?_, fun hc => ?_⟩
            · refine symSF_ok hv f (P := P) (X := A1) (Y := B1) (S := A2 ++ B2 ++ S) (by omega) (by simp; omega) (by omega) (by omega) (by omega) (by rintro rfl; simp at lA; omega) (by rintro rfl; simp at lB; omega) (fun x hx => iX x (by simp [hx])) (fun x hx => iY x (by simp [hx])) qA1 qB1 (fun x hx y hy => hxy x (by simp [hx]) y (by simp [hy])) (fun Z1 p1 s1 => ?_)
              have := stage2 Z1 p1 s1
              have e : P ++ Z1 ++ (A2 ++ B2 ++ S) = P ++ Z1 ++ A2 ++ B2 ++ S := by simp
              rw [e]; exact this
            · have : A1 = [] ∨ B1 = [] := by
                by_cases hA : A1 = []
                · exact Or.inl hA
                · right; have := List.length_pos_iff.2 hA
                  cases B1 with
                  | nil => rfl
                  | cons => simp at lB; omega
              have := stage2 (A1 ++ B1) (List.Perm.refl _) (sort_app qA1 qB1 (this.elim Or.inl fun h => Or.inr (Or.inl h)))
              have e : P ++ A1 ++ B1 ++ (A2 ++ B2 ++ S) = P ++ (A1 ++ B1) ++ A2 ++ B2 ++ S := by simp
              rw [e]; exact this
          refine VMeet_go ⟨fun hc => ?_, fun hc => VMeet_go ?_⟩
          · have e : P ++ (A1 ++ A2) ++ (B1 ++ B2) ++ S = (P ++ A1) ++ A2 ++ B1 ++ (B2 ++ S) := by simp
            rw [e]
            refine rotSF_ok (P := P ++ A1) (X := A2) (Y := B1) (S := B2 ++ S) (by simp; omega) (by simp; omega) (by omega) (by omega) (by rintro rfl; simp at hm; omega) (by rintro rfl; simp at lB; omega) (VMeet_go ?_)
            have e2 : P ++ A1 ++ B1 ++ A2 ++ (B2 ++ S) = P ++ A1 ++ B1 ++ (A2 ++ B2 ++ S) := by simp
            rw [e2]; exact stage1
          · have : A2 = [] ∨ B1 = [] := by
              by_cases hA : A2 = []
              · exact Or.inl hA
              · right; have := List.length_pos_iff.2 hA
                cases B1 with
                | nil => rfl
                | cons => simp at lB; omega
            have e2 : P ++ (A1 ++ A2) ++ (B1 ++ B2) ++ S = P ++ A1 ++ B1 ++ (A2 ++ B2 ++ S) := by
              rcases this with rfl | rfl <;> simp
            rw [e2]; exact stage1
      refine ⟨by unfold I64; omega, by unfold I64; omega, VMeet_go ⟨fun hc => ⟨by unfold I64; omega, by unfold I64; omega, ?_⟩, fun hc => ⟨by unfold I64; omega, ?_⟩⟩⟩
      · exact main _ _ (Or.inr (by omega)) (Or.inr (by omega)) (by omega) (by omega) (by omega) (by omega) (by omega)
      · exact main _ _ (Or.inl rfl) (Or.inl rfl) (by omega) (by omega) (by omega) (by omega) (by omega)
theorem SortSF_ok (hv : TI nn value level reason T starts Cl) {x : List Int} {Q : List Int → Prop} (hx : x.Pairwise (· < ·)) (hl : x.length ≤ 39) (hi : Inds nn x) (h : ∀ d, d.Perm x → d.Pairwise (ltS T) → Q d) : V_SortSF x nn cs watch value level reason T starts head heat proof dead AA Q := by
  intro _
  by_cases h20 : x.length < 20
  · refine ⟨fun s => s = (x, 0, 20), fun _ => 0, rfl, ?_⟩
    rintro _ rfl
    refine ⟨fun hb => by omega, fun _ => ?_⟩
    have e : x = [] ++ x ++ [] := by simp
    conv => arg 1; rw [e]
    refine insSF_ok hv (by simp; omega) (by simp) (by simp) hi hx fun Y hY sY => ?_
    refine ⟨fun s => s = ([] ++ Y ++ [], 20), fun _ => 0, rfl, ?_⟩
    rintro _ rfl
    exact ⟨fun hb => by omega, fun _ => by simpa using h Y hY sY⟩
  · obtain ⟨X, Z, rfl, hX⟩ : ∃ X Z, x = X ++ Z ∧ X.length = 20 := ⟨x.take 20, x.drop 20, (List.take_append_drop _ _).symm, by rw [List.length_take]; omega⟩
    obtain ⟨sX, sZ, sXZ⟩ := List.pairwise_append.1 hx
    rw [List.length_append] at hl h20
    refine ⟨fun s => s = (X ++ Z, 0, 20) ∨ ∃ Y, Y.Perm X ∧ Y.Pairwise (ltS T) ∧ s = (Y ++ Z, 20, 40), fun s => (40 - s.2.2).toNat, .inl rfl, ?_⟩
    rintro _ (rfl | ⟨Y, hY, sY, rfl⟩)
    · refine ⟨fun _ => ?_, fun hb => by simp at hb; omega⟩
      have e : X ++ Z = [] ++ X ++ Z := by simp
      conv => arg 1; rw [e]
      refine insSF_ok hv (by simp; omega) (by simp) (by simp; omega) (fun i h => hi i (by simp [h])) sX fun Y hY sY => ?_
      exact ⟨by unfold I64; omega, .inr ⟨Y, hY, sY, by simp⟩, (by decide : (40 - (40 : Int)).toNat < (40 - (20 : Int)).toNat)⟩
    · have lY := hY.length_eq
      refine ⟨fun hb => by simp at hb; omega, fun _ => ?_⟩
      have e : Y ++ Z = Y ++ Z ++ [] := by simp
      conv => arg 1; rw [e]
      refine insSF_ok hv (by simp; omega) (by omega) (by simp; omega) (fun i h => hi i (by simp [h])) sZ fun V hV sV => ?_
      have lV := hV.length_eq
      refine ⟨fun s => s = (Y ++ V ++ [], 20) ∨ (s.2 = 40 ∧ s.1.Perm (X ++ Z) ∧ s.1.Pairwise (ltS T)), fun s => (40 - s.2).toNat, .inl rfl, ?_⟩
      rintro ⟨d, bs⟩ (he | ⟨h1, h2, h3⟩)
      · obtain ⟨rfl, rfl⟩ := Prod.mk.inj he
        refine ⟨fun hb => ⟨by unfold I64; omega, ?_⟩, fun hb => ?_⟩
        · simp only [List.length_append] at hb
          refine ⟨fun s => s = (Y ++ V ++ [], 0, 40), fun _ => 0, by simp, ?_⟩
          rintro _ rfl
          refine ⟨fun hb => by simp at hb; omega, fun _ => VMeet_go ⟨by unfold I64; omega, fun hlt => ?_, fun hlt => by simp at hlt; omega⟩⟩
          have e2 : Y ++ V ++ [] = [] ++ Y ++ V ++ [] := by simp
          refine ⟨Y.length + V.length + 1, ?_⟩
          rw [e2]
          refine symSF_ok hv _ (Nat.lt_succ_self _) (by simp; omega) (by simp) (by simp; omega) (by simp; omega) (by rintro rfl; simp at lY; omega) (by rintro rfl; simp at lV; omega)
            (fun i h => hi i (by simp [hY.mem_iff.1 h])) (fun i h => hi i (by simp [hV.mem_iff.1 h])) sY sV (fun x hx y hy => sXZ x (hY.mem_iff.1 hx) y (hV.mem_iff.1 hy)) fun W pW sW => ?_
          exact ⟨by unfold I64; omega, .inr ⟨rfl, by simpa using pW.trans (hY.append hV), by simpa using sW⟩, (by decide : (40 - (40 : Int)).toNat < (40 - (20 : Int)).toNat)⟩
        · simp only [List.length_append] at hb
          have : V = [] := List.length_eq_zero_iff.1 (by omega)
          subst this
          have hz : Z = [] := List.length_eq_zero_iff.1 (by simpa using lV.symm)
          subst hz
          simpa using h Y (by simpa using hY) sY
      · simp only at h1
        subst h1
        exact ⟨fun hb => by simp at hb; omega, fun _ => h d h2 h3⟩
end
end Go.Vc
