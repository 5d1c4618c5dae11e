/- The stable sort of a function's keys, part 2: merging in place, blocks. No program in sight. -/
import Derived.Test.YtlhkfkecoekoeaaGreatDoorPlainV5
set_option linter.unusedVariables false
set_option linter.unusedSimpArgs false
namespace Go.Vc
theorem half_wrap {x : Int} (h0 : 0 ≤ x) (h1 : x ≤ 1000000000) : IntKind.i64.wrap ((IntKind.u64.wrap x) / 2) = x / 2 := by
  rw [IntWalk.u64_in _ ⟨by omega, by omega⟩, IntWalk.i64_in _ ⟨by omega, by omega⟩]
section
variable {c : List Val}
theorem sort_app {A B : List Int} (hA : A.Pairwise (ltI c)) (hB : B.Pairwise (ltI c)) (h : A = [] ∨ B = [] ∨ ∃ A' x y B', A = A' ++ [x] ∧ B = y :: B' ∧ ltI c x y) : (A ++ B).Pairwise (ltI c) := by
  rcases h with rfl | rfl | ⟨A', x, y, B', rfl, rfl, h⟩
  · simpa using hB
  · simpa using hA
  · refine List.pairwise_append.2 ⟨hA, hB, fun u hu v hv => ?_⟩
    have h1 : ltI c u y := by
      rcases List.mem_append.1 hu with hu | hu
      · exact ((List.pairwise_append.1 hA).2.2 u hu x (by simp)).trans h
      · rw [List.mem_singleton.1 hu]; exact h
    rcases List.mem_cons.1 hv with rfl | hv
    · exact h1
    · exact h1.trans ((List.pairwise_cons.1 hB).1 v hv)
theorem symSF_ok (hv : HvL c) : ∀ (f : Nat) {P X Y S : List Int} {a m b : Int} {Q : List Int → Prop}, X.length + Y.length < f → (P ++ X ++ Y ++ S).length ≤ 1000000 → a = P.length → m = a + X.length → b = m + Y.length → X ≠ [] → Y ≠ [] →
    Inds c X → Inds c Y → X.Pairwise (ltI c) → Y.Pairwise (ltI c) → (∀ x ∈ X, ∀ y ∈ Y, x < y) → (∀ Z, Z.Perm (X ++ Y) → Z.Pairwise (ltI c) → Q (P ++ Z ++ S)) → V_symSF f (P ++ X ++ Y ++ S) a m b c Q
  | 0, _, _, _, _, _, _, _, _, h, _, _, _, _, _, _, _, _, _, _, _, _ => absurd h (by omega)
  | f + 1, P, X, Y, S, a, m, b, Q, hf, hb, ha, hm, hb2, hX, hY, iX, iY, sX, sY, hxy, h => by
    have pX : 1 ≤ X.length := List.length_pos_iff.2 hX
    have pY : 1 ≤ Y.length := List.length_pos_iff.2 hY
    simp at hb
    unfold V_symSF
    refine ⟨by unfold I64; omega, fun h1 => ?_, fun h1 => ⟨by unfold I64; omega, fun h2 => ?_, fun h2 => ?_⟩⟩
    · -- one ahead
      obtain ⟨x, rfl⟩ : ∃ x, X = [x] := by
        match X, pX, (by omega : X.length = 1) with
        | [x], _, _ => exact ⟨x, rfl⟩
      have ex : ix (P ++ [x] ++ Y ++ S) a = x := by rw [show P ++ [x] ++ Y ++ S = P ++ x :: (Y ++ S) by simp]; exact ix_app (by omega)
      have ia : In a (P ++ [x] ++ Y ++ S) := ⟨by omega, by simp; omega⟩
      have gY : ∀ k : Int, m ≤ k → k < b → ∃ A y B, Y = A ++ y :: B ∧ k = m + A.length ∧ ix (P ++ [x] ++ Y ++ S) k = y ∧ In k (P ++ [x] ++ Y ++ S) := fun k k0 k1 => by
        obtain ⟨A, y, B, e, hl⟩ := app_split (l := Y) (i := k - m) (by omega) (by omega)
        refine ⟨A, y, B, e, by omega, ?_, ⟨by omega, by simp; omega⟩⟩
        rw [e, show P ++ [x] ++ (A ++ y :: B) ++ S = (P ++ [x] ++ A) ++ y :: (B ++ S) by simp]; exact ix_app (by simp; simp at hm; omega)
      refine ⟨fun s => m ≤ s.1 ∧ s.1 ≤ s.2 ∧ s.2 ≤ b ∧ (s.1 = m ∨ ∃ A y B, Y = A ++ y :: B ∧ s.1 = m + A.length + 1 ∧ ltI c y x) ∧ (s.2 = b ∨ ∃ A y B, Y = A ++ y :: B ∧ s.2 = m + A.length ∧ ltI c x y), fun s => (s.2 - s.1).toNat, ⟨by simp, by simp; omega, by simp, Or.inl rfl, Or.inl rfl⟩, ?_⟩
      rintro ⟨i, j⟩ ⟨g1, g2, g3, g4, g5⟩
      simp only at g1 g2 g3 g4 g5
      refine ⟨fun hij => ?_, fun hij => ?_⟩
      · rw [half_wrap (by omega) (by omega)]
        obtain ⟨A, y, B, e, hk, ey, hin⟩ := gY ((i + j) / 2) (by omega) (by omega)
        have my : y ∈ Y := by rw [e]; simp
        refine ⟨by unfold I64; omega, hin, fun _ => ⟨ia, fun _ => ?_⟩⟩
        rw [ey, ex]
        refine FunOf1_ok hv (iY y my) (iX x (by simp)) ⟨fun hl => ⟨by unfold I64; omega, ⟨by show m ≤ _; omega, by show (i + j) / 2 + 1 ≤ j; omega, g3, Or.inr ⟨A, y, B, e, by show (i + j) / 2 + 1 = _; omega, Or.inl hl⟩, g5⟩, by show (j - ((i + j) / 2 + 1)).toNat < (j - i).toNat; omega⟩, fun hl => ⟨⟨g1, by show i ≤ (i + j) / 2; omega, by show (i + j) / 2 ≤ b; omega, g4, Or.inr ⟨A, y, B, e, hk, ltI_of_not hl (hxy x (by simp) y my)⟩⟩, by show ((i + j) / 2 - i).toNat < (j - i).toNat; omega⟩⟩
      · have hij : i = j := by omega
        subst hij
        obtain ⟨A, B, e, hl⟩ : ∃ A B, Y = A ++ B ∧ i = m + A.length := ⟨Y.take (i - m).toNat, Y.drop (i - m).toNat, by rw [List.take_append_drop], by simp; omega⟩
        subst e
        simp only [List.length_append] at hb hb2 hf pY
        have done : Q (P ++ (A ++ [x] ++ B) ++ S) := by
          refine h _ (by simp) ?_
          obtain ⟨qA, qB, qAB⟩ := List.pairwise_append.1 sY
          have qx : (A ++ [x]).Pairwise (ltI c) := sort_app qA (by simp) (by
            by_cases hA : A = []
            · exact Or.inl hA
            · obtain ⟨A', y, rfl⟩ := snoc_split hA
              rcases g4 with g4 | ⟨A2, y2, B2, e2, g4, g6⟩
              · simp at hl; omega
              · refine Or.inr (Or.inr ⟨A', y, x, [], rfl, rfl, ?_⟩)
                simp at hl
                have : A' ++ y :: B = A2 ++ y2 :: B2 := by rw [← e2]; simp
                have := List.append_inj this (by omega)
                simp at this; rw [this.2.1]; exact g6)
          refine sort_app qx qB ?_
          by_cases hB : B = []
          · exact Or.inr (Or.inl hB)
          · obtain ⟨y, B', rfl⟩ : ∃ y B', B = y :: B' := List.exists_cons_of_ne_nil hB
            rcases g5 with g5 | ⟨A2, y2, B2, e2, g5, g6⟩
            · simp at hb2; omega
            · refine Or.inr (Or.inr ⟨A, x, y, B', rfl, rfl, ?_⟩)
              have := List.append_inj e2 (by omega)
              simp at this; rw [this.2.1]; exact g6
        refine ⟨fun s => ∃ A1 A2, A = A1 ++ A2 ∧ s.1 = P ++ A1 ++ x :: (A2 ++ B ++ S) ∧ s.2 = a + A1.length, fun s => (i - s.2).toNat, ⟨[], A, by simp, by simp, by simp⟩, ?_⟩
        rintro ⟨d, k⟩ ⟨A1, A2, f1, f2, f3⟩
        simp only at f2 f3
        subst f1 f2
        simp at hm
        simp only [List.length_append] at hl hb hb2
        refine ⟨by unfold I64; omega, fun hk => ?_, fun hk => ?_⟩
        · cases A2 with
          | nil => simp at hl; omega
          | cons y A2 =>
          simp only [List.length_cons] at hl hb hb2
          have e1 : ix (P ++ A1 ++ x :: (y :: A2 ++ B ++ S)) k = x := ix_app (by simp; omega)
          have l2 : P ++ A1 ++ x :: (y :: A2 ++ B ++ S) = (P ++ A1 ++ [x]) ++ y :: (A2 ++ B ++ S) := by simp
          have e2 : ix (P ++ A1 ++ x :: (y :: A2 ++ B ++ S)) (k + 1) = y := by rw [l2]; exact ix_app (by simp; omega)
          have i1 : In k (P ++ A1 ++ x :: (y :: A2 ++ B ++ S)) := ⟨by omega, by simp; omega⟩
          have i2 : In (k + 1) (P ++ A1 ++ x :: (y :: A2 ++ B ++ S)) := ⟨by omega, by simp; omega⟩
          refine ⟨by unfold I64; omega, by unfold I64; omega, i2, fun _ => ⟨i1, fun _ => ⟨i1, ⟨by omega, by simp; omega⟩, by unfold I64; omega, ⟨A1 ++ [y], A2, by simp, ?_, by simp; omega⟩, by show (i - (k + 1)).toNat < (i - k).toNat; omega⟩⟩⟩
          show ((P ++ A1 ++ x :: (y :: A2 ++ B ++ S)).set k.toNat (ix (P ++ A1 ++ x :: (y :: A2 ++ B ++ S)) (k + 1))).set (k + 1).toNat (ix (P ++ A1 ++ x :: (y :: A2 ++ B ++ S)) k) = _
          rw [e1, e2, set_app (by simp; omega)]
          have l3 : P ++ A1 ++ y :: (y :: A2 ++ B ++ S) = (P ++ A1 ++ [y]) ++ y :: (A2 ++ B ++ S) := by simp
          rw [l3, set_app (by simp; omega)]; simp
        · have : A2 = [] := by cases A2 with
            | nil => rfl
            | cons => simp at hl; omega
          subst this
          simpa using done
    · -- one behind
      obtain ⟨y, rfl⟩ : ∃ y, Y = [y] := by
        match Y, pY, (by omega : Y.length = 1) with
        | [y], _, _ => exact ⟨y, rfl⟩
      have ey : ix (P ++ X ++ [y] ++ S) m = y := by rw [show P ++ X ++ [y] ++ S = (P ++ X) ++ y :: S by simp]; exact ix_app (by simp; omega)
      have im : In m (P ++ X ++ [y] ++ S) := ⟨by omega, by simp; omega⟩
      have gX : ∀ k : Int, a ≤ k → k < m → ∃ A x B, X = A ++ x :: B ∧ k = a + A.length ∧ ix (P ++ X ++ [y] ++ S) k = x ∧ In k (P ++ X ++ [y] ++ S) := fun k k0 k1 => by
        obtain ⟨A, x, B, e, hl⟩ := app_split (l := X) (i := k - a) (by omega) (by omega)
        refine ⟨A, x, B, e, by omega, ?_, ⟨by omega, by simp; omega⟩⟩
        rw [e, show P ++ (A ++ x :: B) ++ [y] ++ S = (P ++ A) ++ x :: (B ++ [y] ++ S) by simp]; exact ix_app (by simp; omega)
      refine ⟨fun s => a ≤ s.1 ∧ s.1 ≤ s.2 ∧ s.2 ≤ m ∧ (s.1 = a ∨ ∃ A x B, X = A ++ x :: B ∧ s.1 = a + A.length + 1 ∧ ltI c x y) ∧ (s.2 = m ∨ ∃ A x B, X = A ++ x :: B ∧ s.2 = a + A.length ∧ ltI c y x), fun s => (s.2 - s.1).toNat, ⟨by simp, by simp; omega, by simp, Or.inl rfl, Or.inl rfl⟩, ?_⟩
      rintro ⟨i, j⟩ ⟨g1, g2, g3, g4, g5⟩
      simp only at g1 g2 g3 g4 g5
      refine ⟨fun hij => ?_, fun hij => ?_⟩
      · rw [half_wrap (by omega) (by omega)]
        obtain ⟨A, x, B, e, hk, ex, hin⟩ := gX ((i + j) / 2) (by omega) (by omega)
        have mx : x ∈ X := by rw [e]; simp
        refine ⟨by unfold I64; omega, im, fun _ => ⟨hin, fun _ => ?_⟩⟩
        rw [ex, ey]
        refine FunOf1_ok hv (iY y (by simp)) (iX x mx) ⟨fun hl => ⟨by unfold I64; omega, ⟨by show a ≤ _; omega, by show (i + j) / 2 + 1 ≤ j; omega, g3, Or.inr ⟨A, x, B, e, by show (i + j) / 2 + 1 = _; omega, ltI_of_not hl (hxy x mx y (by simp))⟩, g5⟩, by show (j - ((i + j) / 2 + 1)).toNat < (j - i).toNat; omega⟩, fun hl => ⟨⟨g1, by show i ≤ (i + j) / 2; omega, by show (i + j) / 2 ≤ m; omega, g4, Or.inr ⟨A, x, B, e, hk, Or.inl hl⟩⟩, by show ((i + j) / 2 - i).toNat < (j - i).toNat; omega⟩⟩
      · have hij : i = j := by omega
        subst hij
        obtain ⟨A, B, e, hl⟩ : ∃ A B, X = A ++ B ∧ i = a + A.length := ⟨X.take (i - a).toNat, X.drop (i - a).toNat, by rw [List.take_append_drop], by simp; omega⟩
        subst e
        simp only [List.length_append] at hb hm hf pX
        have done : Q (P ++ (A ++ [y] ++ B) ++ S) := by
          refine h _ ?_ ?_
          · have : (A ++ [y] ++ B).Perm (A ++ (B ++ [y])) := by
              rw [List.append_assoc]; exact List.Perm.append_left A List.perm_append_comm
            simpa using this
          obtain ⟨qA, qB, qAB⟩ := List.pairwise_append.1 sX
          have qx : (A ++ [y]).Pairwise (ltI c) := sort_app qA (by simp) (by
            by_cases hA : A = []
            · exact Or.inl hA
            · obtain ⟨A', x, rfl⟩ := snoc_split hA
              rcases g4 with g4 | ⟨A2, x2, B2, e2, g4, g6⟩
              · simp at hl; omega
              · refine Or.inr (Or.inr ⟨A', x, y, [], rfl, rfl, ?_⟩)
                simp at hl
                have : A' ++ x :: B = A2 ++ x2 :: B2 := by rw [← e2]; simp
                have := List.append_inj this (by omega)
                simp at this; rw [this.2.1]; exact g6)
          refine sort_app qx qB ?_
          by_cases hB : B = []
          · exact Or.inr (Or.inl hB)
          · obtain ⟨x, B', rfl⟩ : ∃ x B', B = x :: B' := List.exists_cons_of_ne_nil hB
            rcases g5 with g5 | ⟨A2, x2, B2, e2, g5, g6⟩
            · simp at hm; omega
            · refine Or.inr (Or.inr ⟨A, y, x, B', rfl, rfl, ?_⟩)
              have := List.append_inj e2 (by omega)
              simp at this; rw [this.2.1]; exact g6
        refine ⟨fun s => ∃ B1 B2, B = B1 ++ B2 ∧ s.1 = P ++ A ++ B1 ++ y :: (B2 ++ S) ∧ s.2 = i + B1.length, fun s => (s.2 - i).toNat, ⟨B, [], by simp, by simp, by simp; omega⟩, ?_⟩
        rintro ⟨d, k⟩ ⟨B1, B2, f1, f2, f3⟩
        simp only at f2 f3
        subst f1 f2
        simp only [List.length_append] at hm hb
        refine ⟨fun hk => ?_, fun hk => ?_⟩
        · have hne : B1 ≠ [] := by rintro rfl; simp at f3; omega
          obtain ⟨B1, x, rfl⟩ := snoc_split hne
          simp only [List.length_append, List.length_singleton] at f3 hb hm
          have l1 : P ++ A ++ (B1 ++ [x]) ++ y :: (B2 ++ S) = (P ++ A ++ B1) ++ x :: (y :: (B2 ++ S)) := by simp
          have e1 : ix (P ++ A ++ (B1 ++ [x]) ++ y :: (B2 ++ S)) k = y := ix_app (by simp; omega)
          have e2 : ix (P ++ A ++ (B1 ++ [x]) ++ y :: (B2 ++ S)) (k - 1) = x := by rw [l1]; exact ix_app (by simp; omega)
          have i1 : In k (P ++ A ++ (B1 ++ [x]) ++ y :: (B2 ++ S)) := ⟨by omega, by simp; omega⟩
          have i2 : In (k - 1) (P ++ A ++ (B1 ++ [x]) ++ y :: (B2 ++ S)) := ⟨by omega, by simp; omega⟩
          refine ⟨by unfold I64; omega, by unfold I64; omega, i2, fun _ => ⟨i1, fun _ => ⟨i1, ⟨by omega, by simp; omega⟩, by unfold I64; omega, ⟨B1, x :: B2, by simp, ?_, by show k - 1 = _; omega⟩, by show (k - 1 - i).toNat < (k - i).toNat; omega⟩⟩⟩
          show ((P ++ A ++ (B1 ++ [x]) ++ y :: (B2 ++ S)).set k.toNat (ix (P ++ A ++ (B1 ++ [x]) ++ y :: (B2 ++ S)) (k - 1))).set (k - 1).toNat (ix (P ++ A ++ (B1 ++ [x]) ++ y :: (B2 ++ S)) k) = _
          rw [e1, e2, set_app (by simp; omega)]
          have l3 : P ++ A ++ (B1 ++ [x]) ++ x :: (B2 ++ S) = (P ++ A ++ B1) ++ x :: (x :: (B2 ++ S)) := by simp
          rw [l3, set_app (by simp; omega)]; simp
        · have : B1 = [] := by cases B1 with
            | nil => rfl
            | cons => simp at f3; omega
          subst this
          simpa using done
    · -- two and more on both sides
      rw [half_wrap (by omega) (by omega)]
      obtain ⟨mid, hmid⟩ : ∃ mid, (a + b) / 2 = mid := ⟨_, rfl⟩
      rw [hmid]
      have gX : ∀ k : Int, a ≤ k → k < m → ∃ A x B, X = A ++ x :: B ∧ k = a + A.length ∧ ix (P ++ X ++ Y ++ S) k = x ∧ In k (P ++ X ++ Y ++ S) := fun k k0 k1 => by
        obtain ⟨A, x, B, e, hl⟩ := app_split (l := X) (i := k - a) (by omega) (by omega)
        refine ⟨A, x, B, e, by omega, ?_, ⟨by omega, by simp; omega⟩⟩
        rw [e, show P ++ (A ++ x :: B) ++ Y ++ S = (P ++ A) ++ x :: (B ++ Y ++ S) by simp]; exact ix_app (by simp; omega)
      have gY : ∀ k : Int, m ≤ k → k < b → ∃ A y B, Y = A ++ y :: B ∧ k = m + A.length ∧ ix (P ++ X ++ Y ++ S) k = y ∧ In k (P ++ X ++ Y ++ S) := fun k k0 k1 => by
        obtain ⟨A, y, B, e, hl⟩ := app_split (l := Y) (i := k - m) (by omega) (by omega)
        refine ⟨A, y, B, e, by omega, ?_, ⟨by omega, by simp; omega⟩⟩
        rw [e, show P ++ X ++ (A ++ y :: B) ++ S = (P ++ X ++ A) ++ y :: (B ++ S) by simp]; exact ix_app (by simp; omega)
      have main : ∀ s0 r0 : Int, (s0 = a ∨ mid + m - s0 = b) → (r0 = m ∨ mid + m - r0 = m) → a ≤ s0 → s0 ≤ r0 → r0 ≤ m → r0 ≤ mid → mid + m - s0 ≤ b →
          VLoop (σ := Int × Int) (s0, r0) fun (start_824, r_826) xnext_885 =>
            (start_824 < r_826 →
            I64 (start_824 + r_826) ∧
            I64 (((mid + m) - (1 : Int)) - (IntKind.i64.wrap ((IntKind.u64.wrap (start_824 + r_826)) / 2))) ∧
            In (((mid + m) - (1 : Int)) - (IntKind.i64.wrap ((IntKind.u64.wrap (start_824 + r_826)) / 2))) (P ++ X ++ Y ++ S) ∧
            (I64 (ix (P ++ X ++ Y ++ S) (((mid + m) - (1 : Int)) - (IntKind.i64.wrap ((IntKind.u64.wrap (start_824 + r_826)) / 2)))) →
            In (IntKind.i64.wrap ((IntKind.u64.wrap (start_824 + r_826)) / 2)) (P ++ X ++ Y ++ S) ∧
            (I64 (ix (P ++ X ++ Y ++ S) (IntKind.i64.wrap ((IntKind.u64.wrap (start_824 + r_826)) / 2))) →
            V_FunOf1 (ix (P ++ X ++ Y ++ S) (((mid + m) - (1 : Int)) - (IntKind.i64.wrap ((IntKind.u64.wrap (start_824 + r_826)) / 2)))) (ix (P ++ X ++ Y ++ S) (IntKind.i64.wrap ((IntKind.u64.wrap (start_824 + r_826)) / 2))) c fun r_929 =>
            (¬ (r_929 < (0 : Int)) →
            I64 ((IntKind.i64.wrap ((IntKind.u64.wrap (start_824 + r_826)) / 2)) + (1 : Int)) ∧
            xnext_885 (((IntKind.i64.wrap ((IntKind.u64.wrap (start_824 + r_826)) / 2)) + (1 : Int)), r_826)) ∧
            (r_929 < (0 : Int) →
            xnext_885 (start_824, (IntKind.i64.wrap ((IntKind.u64.wrap (start_824 + r_826)) / 2))))))) ∧
            (¬ (start_824 < r_826) →
            I64 ((mid + m) - start_824) ∧
            VMeet (σ := LI) (fun data_952 =>
            VMeet (σ := LI) (fun data_977 =>
            ((mid < ((mid + m) - start_824)) ∧ (((mid + m) - start_824) < b) →
            V_symSF f data_977 mid ((mid + m) - start_824) b c fun c_997 =>
            Q c_997) ∧
            (¬ ((mid < ((mid + m) - start_824)) ∧ (((mid + m) - start_824) < b)) →
            Q data_977)) fun J_980 =>
            ((a < start_824) ∧ (start_824 < mid) →
            V_symSF f data_952 a start_824 mid c fun c_987 =>
            J_980 c_987) ∧
            (¬ ((a < start_824) ∧ (start_824 < mid)) →
            J_980 data_952)) fun J_955 =>
            ((start_824 < m) ∧ (m < ((mid + m) - start_824)) →
            V_rotSF (P ++ X ++ Y ++ S) start_824 m ((mid + m) - start_824) c fun c_962 =>
            J_955 c_962) ∧
            (¬ ((start_824 < m) ∧ (m < ((mid + m) - start_824))) →
            J_955 (P ++ X ++ Y ++ S))) := by
        intro s0 r0 h0 h1' z1 z2 z3 z4 z5
        refine ⟨fun s => s0 ≤ s.1 ∧ s.1 ≤ s.2 ∧ s.2 ≤ r0 ∧ (s.1 = s0 ∨ ∃ A x B A' y B', X = A ++ x :: B ∧ s.1 = a + A.length + 1 ∧ Y = A' ++ y :: B' ∧ mid + m - s.1 = m + A'.length ∧ ltI c x y) ∧ (s.2 = r0 ∨ ∃ A x B A' y B', X = A ++ x :: B ∧ s.2 = a + A.length ∧ Y = A' ++ y :: B' ∧ mid + m - s.2 = m + A'.length + 1 ∧ ltI c y x), fun s => (s.2 - s.1).toNat, ⟨by simp, by simpa using z2, by simp, Or.inl rfl, Or.inl rfl⟩, ?_⟩
        rintro ⟨i, j⟩ ⟨g1, g2, g3, g4, g5⟩
        simp only at g1 g2 g3 g4 g5
        refine ⟨fun hij => ?_, fun hij => ?_⟩
        · rw [half_wrap (by omega) (by omega)]
          obtain ⟨A, x, B, e, hk, ex, hin⟩ := gX ((i + j) / 2) (by omega) (by omega)
          obtain ⟨A', y, B', e', hk', ey, hin'⟩ := gY (mid + m - 1 - (i + j) / 2) (by omega) (by omega)
          have mx : x ∈ X := by rw [e]; simp
          have my : y ∈ Y := by rw [e']; simp
          refine ⟨by unfold I64; omega, by unfold I64; omega, hin', fun _ => ⟨hin, fun _ => ?_⟩⟩
          rw [ex, ey]
          refine FunOf1_ok hv (iY y my) (iX x mx) ⟨fun hl => ⟨by unfold I64; omega, ⟨by show s0 ≤ _; omega, by show (i + j) / 2 + 1 ≤ j; omega, g3, Or.inr ⟨A, x, B, A', y, B', e, by show (i + j) / 2 + 1 = _; omega, e', by show mid + m - ((i + j) / 2 + 1) = _; omega, ltI_of_not hl (hxy x mx y my)⟩, g5⟩, by show (j - ((i + j) / 2 + 1)).toNat < (j - i).toNat; omega⟩, fun hl => ⟨⟨g1, by show i ≤ (i + j) / 2; omega, by show (i + j) / 2 ≤ r0; omega, g4, Or.inr ⟨A, x, B, A', y, B', e, hk, e', by show mid + m - (i + j) / 2 = _; omega, Or.inl hl⟩⟩, by show ((i + j) / 2 - i).toNat < (j - i).toNat; omega⟩⟩
        · have hij : i = j := by omega
          subst hij
          refine ⟨by unfold I64; omega, ?_⟩
          obtain ⟨A1, A2, eX, lA⟩ : ∃ A B, X = A ++ B ∧ i = a + A.length := ⟨X.take (i - a).toNat, X.drop (i - a).toNat, by rw [List.take_append_drop], by simp; omega⟩
          obtain ⟨B1, B2, eY, lB⟩ : ∃ A B, Y = A ++ B ∧ mid + m - i = m + A.length := ⟨Y.take (mid - i).toNat, Y.drop (mid - i).toNat, by rw [List.take_append_drop], by simp; omega⟩
          subst eX eY
          simp only [List.length_append] at hb hm hb2 hf pX pY
          obtain ⟨qA1, qA2, qA⟩ := List.pairwise_append.1 sX
          obtain ⟨qB1, qB2, qB⟩ := List.pairwise_append.1 sY
          have c1 : (A1 ++ B2).Pairwise (ltI c) := sort_app qA1 qB2 (by
            by_cases hA : A1 = []
            · exact Or.inl hA
            by_cases hB : B2 = []
            · exact Or.inr (Or.inl hB)
            obtain ⟨A', x, rfl⟩ := snoc_split hA
            obtain ⟨y, B', rfl⟩ : ∃ y B', B2 = y :: B' := List.exists_cons_of_ne_nil hB
            simp at lA hb2
            rcases g4 with g4 | ⟨A3, x3, A4, B3, y3, B4, e3, g6, e4, g7, g8⟩
            · omega
            · refine Or.inr (Or.inr ⟨A', x, y, B', rfl, rfl, ?_⟩)
              have t1 : A' ++ x :: A2 = A3 ++ x3 :: A4 := by rw [← e3]; simp
              have t1 := List.append_inj t1 (by omega)
              have t2 := List.append_inj e4 (by omega)
              simp at t1 t2; rw [t1.2.1, t2.2.1]; exact g8)
          have c2 : (B1 ++ A2).Pairwise (ltI c) := sort_app qB1 qA2 (by
            by_cases hA : B1 = []
            · exact Or.inl hA
            by_cases hB : A2 = []
            · exact Or.inr (Or.inl hB)
            obtain ⟨B', y, rfl⟩ := snoc_split hA
            obtain ⟨x, A', rfl⟩ : ∃ x A', A2 = x :: A' := List.exists_cons_of_ne_nil hB
            simp at lB hm
            rcases g5 with g5 | ⟨A3, x3, A4, B3, y3, B4, e3, g6, e4, g7, g8⟩
            · omega
            · refine Or.inr (Or.inr ⟨B', y, x, A', rfl, rfl, ?_⟩)
              have t2 : B' ++ y :: B2 = B3 ++ y3 :: B4 := by rw [← e4]; simp
              have t2 := List.append_inj t2 (by omega)
              have t1 := List.append_inj e3 (by omega)
              simp at t1 t2; rw [t1.2.1, t2.2.1]; exact g8)
          clear g4 g5
          have fin : ∀ Z1 Z2, Z1.Perm (A1 ++ B1) → Z1.Pairwise (ltI c) → Z2.Perm (A2 ++ B2) → Z2.Pairwise (ltI c) → Q (P ++ (Z1 ++ Z2) ++ S) := fun Z1 Z2 p1 s1 p2 s2 => by
            refine h _ ?_ (List.pairwise_append.2 ⟨s1, s2, fun u hu w hw => ?_⟩)
            · refine (List.Perm.append p1 p2).trans ?_
              have : (A1 ++ B1 ++ (A2 ++ B2)).Perm (A1 ++ (A2 ++ (B1 ++ B2))) := by
                rw [List.append_assoc]; refine List.Perm.append_left A1 ?_
                rw [← List.append_assoc, ← List.append_assoc]; exact List.Perm.append_right B2 List.perm_append_comm
              simpa using this
            · rcases List.mem_append.1 (p1.mem_iff.1 hu) with hu | hu <;> rcases List.mem_append.1 (p2.mem_iff.1 hw) with hw | hw
              · exact qA u hu w hw
              · exact (List.pairwise_append.1 c1).2.2 u hu w hw
              · exact (List.pairwise_append.1 c2).2.2 u hu w hw
              · exact qB u hu w hw
          have stage2 : ∀ Z1, Z1.Perm (A1 ++ B1) → Z1.Pairwise (ltI c) →
              ((mid < ((mid + m) - i)) ∧ (((mid + m) - i) < b) → V_symSF f (P ++ Z1 ++ A2 ++ B2 ++ S) mid ((mid + m) - i) b c fun c_997 => Q c_997) ∧ (¬ ((mid < ((mid + m) - i)) ∧ (((mid + m) - i) < b)) → Q (P ++ Z1 ++ A2 ++ B2 ++ S)) := fun Z1 p1 s1 => by
            have l1 : Z1.length = A1.length + B1.length := by rw [p1.length_eq]; simp
            refine ⟨fun hc => ?_, fun hc => ?_⟩
            · refine symSF_ok hv f (P := P ++ Z1) (X := A2) (Y := B2) (S := S) (by omega) (by simp; omega) (by simp; omega) (by omega) (by omega) (by rintro rfl; simp at hm; omega) (by rintro rfl; simp at hb2; omega) (fun x hx => iX x (by simp [hx])) (fun x hx => iY x (by simp [hx])) qA2 qB2 (fun x hx y hy => hxy x (by simp [hx]) y (by simp [hy])) (fun Z2 p2 s2 => ?_)
              simpa using fin Z1 Z2 p1 s1 p2 s2
            · have : A2 = [] ∨ B2 = [] := by
                by_cases hA : A2 = []
                · exact Or.inl hA
                · right; have := List.length_pos_iff.2 hA
                  cases B2 with
                  | nil => rfl
                  | cons => simp at hb2; omega
              have := fin Z1 (A2 ++ B2) p1 s1 (List.Perm.refl _) (sort_app qA2 qB2 (this.elim Or.inl fun h => Or.inr (Or.inl h)))
              simpa using this
          have stage1 : ((a < i) ∧ (i < mid) → V_symSF f (P ++ A1 ++ B1 ++ (A2 ++ B2 ++ S)) a i mid c fun c_987 => ((mid < ((mid + m) - i)) ∧ (((mid + m) - i) < b) → V_symSF f c_987 mid ((mid + m) - i) b c fun c_997 => Q c_997) ∧ (¬ ((mid < ((mid + m) - i)) ∧ (((mid + m) - i) < b)) → Q c_987)) ∧ (¬ ((a < i) ∧ (i < mid)) → ((mid < ((mid + m) - i)) ∧ (((mid + m) - i) < b) → V_symSF f (P ++ A1 ++ B1 ++ (A2 ++ B2 ++ S)) mid ((mid + m) - i) b c fun c_997 => Q c_997) ∧ (¬ ((mid < ((mid + m) - i)) ∧ (((mid + m) - i) < b)) → Q (P ++ A1 ++ B1 ++ (A2 ++ B2 ++ S)))) := by
            refine ⟨fun hc => ?_, fun hc => ?_⟩
            · refine symSF_ok hv f (P := P) (X := A1) (Y := B1) (S := A2 ++ B2 ++ S) (by omega) (by simp; omega) (by omega) (by omega) (by omega) (by rintro rfl; simp at lA; omega) (by rintro rfl; simp at lB; omega) (fun x hx => iX x (by simp [hx])) (fun x hx => iY x (by simp [hx])) qA1 qB1 (fun x hx y hy => hxy x (by simp [hx]) y (by simp [hy])) (fun Z1 p1 s1 => ?_)
              have := stage2 Z1 p1 s1
              have e : P ++ Z1 ++ (A2 ++ B2 ++ S) = P ++ Z1 ++ A2 ++ B2 ++ S := by simp
              rw [e]; exact this
            · have : A1 = [] ∨ B1 = [] := by
                by_cases hA : A1 = []
                · exact Or.inl hA
                · right; have := List.length_pos_iff.2 hA
                  cases B1 with
                  | nil => rfl
                  | cons => simp at lB; omega
              have := stage2 (A1 ++ B1) (List.Perm.refl _) (sort_app qA1 qB1 (this.elim Or.inl fun h => Or.inr (Or.inl h)))
              have e : P ++ A1 ++ B1 ++ (A2 ++ B2 ++ S) = P ++ (A1 ++ B1) ++ A2 ++ B2 ++ S := by simp
              rw [e]; exact this
          refine VMeet_go ⟨fun hc => ?_, fun hc => VMeet_go ?_⟩
          · have e : P ++ (A1 ++ A2) ++ (B1 ++ B2) ++ S = (P ++ A1) ++ A2 ++ B1 ++ (B2 ++ S) := by simp
            rw [e]
            refine rotSF_ok (P := P ++ A1) (X := A2) (Y := B1) (S := B2 ++ S) (by simp; omega) (by simp; omega) (by omega) (by omega) (by rintro rfl; simp at hm; omega) (by rintro rfl; simp at lB; omega) (VMeet_go ?_)
            have e2 : P ++ A1 ++ B1 ++ A2 ++ (B2 ++ S) = P ++ A1 ++ B1 ++ (A2 ++ B2 ++ S) := by simp
            rw [e2]; exact stage1
          · have : A2 = [] ∨ B1 = [] := by
              by_cases hA : A2 = []
              · exact Or.inl hA
              · right; have := List.length_pos_iff.2 hA
                cases B1 with
                | nil => rfl
                | cons => simp at lB; omega
            have e2 : P ++ (A1 ++ A2) ++ (B1 ++ B2) ++ S = P ++ A1 ++ B1 ++ (A2 ++ B2 ++ S) := by
              rcases this with rfl | rfl <;> simp
            rw [e2]; exact stage1
      refine ⟨by unfold I64; omega, by unfold I64; omega, VMeet_go ⟨fun hc => ⟨by unfold I64; omega, by unfold I64; omega, ?_⟩, fun hc => ⟨by unfold I64; omega, ?_⟩⟩⟩
      · exact main _ _ (Or.inr (by omega)) (Or.inr (by omega)) (by omega) (by omega) (by omega) (by omega) (by omega)
      · exact main _ _ (Or.inl rfl) (Or.inl rfl) (by omega) (by omega) (by omega) (by omega) (by omega)
end
end Go.Vc
