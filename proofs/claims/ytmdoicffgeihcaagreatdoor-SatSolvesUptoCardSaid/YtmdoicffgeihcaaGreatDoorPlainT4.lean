/- A watch list that is gone through and kept in place; a clause that looks elsewhere. No program in sight. -/
import Derived.Test.YtmdoicffgeihcaaGreatDoorPlainT3
set_option linter.unusedVariables false
namespace Go.Vc
/-- The list of a literal (from x on) and what is kept of it. -/
def LK (A : Arena) (own : Own) (l : Int) (list kept : Raw) (x : Int) (L0 K0 : List Int) : Prop :=
  (L0.length = list.n ∧ list.n ≤ list.cap ∧ kept.n ≤ kept.cap) ∧ 0 ≤ x ∧ x ≤ list.n ∧ ((list = rnil ∧ kept = rnil ∧ K0 = []) ∨
    ∃ b zs, list.ad = some (b, 0) ∧ aget A b = some (zs, list.cap) ∧ list.n ≤ zs.length ∧ own b = some (.wt l) ∧ (∀ j : Nat, x ≤ (j : Int) → j < list.n → zs[j]? = L0[j]?) ∧
      ((kept.ad = some (b, 0) ∧ kept.cap = list.cap ∧ (kept.n : Int) ≤ x ∧ zs.take kept.n = K0) ∨
       ∃ b' zs', b' ≠ b ∧ kept.ad = some (b', 0) ∧ aget A b' = some (zs', kept.cap) ∧ kept.n ≤ zs'.length ∧ own b' = some (.wt l) ∧ zs'.take kept.n = K0))
section lk
variable {A A' : Arena} {own own' : Own} {l : Int} {list kept : Raw} {x : Int} {L0 K0 : List Int}
theorem LK.start (h : Lies A own (.wt l) list) : LK A own l list (rhi list 0) 0 (aread A list) [] := by
  refine ⟨⟨h.length, h.cap, Nat.zero_le _⟩, by omega, by omega, ?_⟩
  rcases h with rfl | ⟨b, zs, h1, h2, h3, h4, h5⟩
  · exact .inl ⟨rfl, rfl, rfl⟩
  · refine .inr ⟨b, zs, h1, h2, h3, h4, fun j _ hj => ?_, .inl ⟨h1, rfl, by simp [rhi], by simp [rhi]⟩⟩
    rw [aread_at h1 h2, List.getElem?_take_of_lt hj]
theorem LK.other {κ : Key} (h : LK A own l list kept x L0 K0) (hne : κ ≠ .wt l) (hf : Fix κ A own A' own') : LK A' own' l list kept x L0 K0 := by
  obtain ⟨h1, h2, h3, h4⟩ := h
  refine ⟨h1, h2, h3, ?_⟩
  rcases h4 with h4 | ⟨b, zs, g1, g2, g3, g4, g5, g6⟩
  · exact .inl h4
  · obtain ⟨e1, e2⟩ := hf b (.wt l) hne.symm g4 (by rw [g2]; simp)
    refine .inr ⟨b, zs, g1, e1.trans g2, g3, e2, g5, ?_⟩
    rcases g6 with g6 | ⟨b', zs', k1, k2, k3, k4, k5, k6⟩
    · exact .inl g6
    · obtain ⟨e3, e4⟩ := hf b' (.wt l) hne.symm k5 (by rw [k3]; simp)
      exact .inr ⟨b', zs', k1, k2, e3.trans k3, k4, e4, k6⟩
theorem LK.read (h : LK A own l list kept x L0 K0) (hx : x < list.n) : InR list x ∧ RdOk A list x ∧ ag A list x = ix L0 x := by
  obtain ⟨h1, h2, h3, h4⟩ := h
  rcases h4 with ⟨rfl, _⟩ | ⟨b, zs, g1, g2, g3, g4, g5, g6⟩
  · simp only at hx; omega
  · have hlt : x.toNat < list.n := by omega
    refine ⟨⟨by rw [g1]; simp, h2, hx⟩, ⟨b, 0, g1, by rw [g2]; rfl, by simp [acont, g2]; omega⟩, ?_⟩
    unfold ag
    rw [g1]
    simp only [acont, g2, Option.map_some, Option.getD_some, Nat.zero_add, ix]
    rw [List.getD_eq_getElem?_getD, List.getD_eq_getElem?_getD, g5 x.toNat (by omega) hlt]
    rfl
theorem LK.skip (h : LK A own l list kept x L0 K0) (hx : x < list.n) : LK A own l list kept (x + 1) L0 K0 := by
  obtain ⟨h1, h2, h3, h4⟩ := h
  refine ⟨h1, by omega, by omega, ?_⟩
  rcases h4 with h4 | ⟨b, zs, g1, g2, g3, g4, g5, g6⟩
  · exact .inl h4
  · refine .inr ⟨b, zs, g1, g2, g3, g4, fun j hj hl => g5 j (by omega) hl, ?_⟩
    rcases g6 with ⟨k1, k2, k3, k4⟩ | k
    · exact .inl ⟨k1, k2, by omega, k4⟩
    · exact .inr k
theorem LK.lies (h : LK A own l list kept x L0 K0) : Lies A own (.wt l) kept ∧ aread A kept = K0 := by
  obtain ⟨h1, h2, h3, h4⟩ := h
  rcases h4 with ⟨_, rfl, rfl⟩ | ⟨b, zs, g1, g2, g3, g4, g5, g6⟩
  · exact ⟨.inl rfl, rfl⟩
  · rcases g6 with ⟨k1, k2, k3, k4⟩ | ⟨b', zs', k1, k2, k3, k4, k5, k6⟩
    · exact ⟨.inr ⟨b, zs, k1, by rw [k2]; exact g2, by omega, g4, h1.2.2⟩, by rw [aread_at k1 g2, k4]⟩
    · exact ⟨.inr ⟨b', zs', k2, k3, k4, k5, h1.2.2⟩, by rw [aread_at k2 k3, k6]⟩
theorem LK.keep {r' : Raw} {y : Int} (h : LK A own l list kept x L0 K0) (hx : x < list.n) (hA : ApR A kept [y] A' r') : ∃ own', Fix (.wt l) A own A' own' ∧ LK A' own' l list r' (x + 1) L0 (K0 ++ [y]) := by
  obtain ⟨hl1, hl2⟩ := h.lies
  obtain ⟨h1, h2, h3, h4⟩ := h
  rcases hA with ⟨e, _⟩ | ⟨b, zs, a1, a2, a3, rfl, rfl⟩ | ⟨b, cap, a1, a2, rfl, rfl⟩
  · cases e
  · rcases h4 with ⟨_, rfl, _⟩ | ⟨c, us, g1, g2, g3, g4, g5, g6⟩
    · cases a1
    · simp only [List.length_singleton] at a3 ⊢
      have hput : ∀ d, aget (aput A b (zs.take kept.n ++ ([y] ++ zs.drop (kept.n + 1)))) d = if d = b then some (zs.take kept.n ++ ([y] ++ zs.drop (kept.n + 1)), kept.cap) else aget A d := fun d => by
        rw [aget_aput]
        by_cases hd : d = b
        · rw [if_pos hd, if_pos hd, a2]; rfl
        · rw [if_neg hd, if_neg hd]
      have hkn : kept.n ≤ zs.length := by
        rcases g6 with ⟨k1, k2, k3, k4⟩ | ⟨b', zs', k1, k2, k3, k4, k5, k6⟩
        · rw [a1] at k1; cases k1; rw [a2] at g2
          have hz := congrArg Prod.fst (Option.some.inj g2)
          simp only at hz; subst hz; omega
        · rw [a1] at k2; cases k2; rw [a2] at k3; cases k3; exact k4
      have ht : (zs.take kept.n).length = kept.n := by rw [List.length_take]; omega
      have hnew : (zs.take kept.n ++ ([y] ++ zs.drop (kept.n + 1))).take (kept.n + 1) = zs.take kept.n ++ [y] := by
        rw [← List.append_assoc]
        have : (zs.take kept.n ++ [y]).length = kept.n + 1 := by rw [List.length_append, ht]; rfl
        rw [← this, List.take_left]
      have hfix : own b = some (.wt l) → Fix (.wt l) A own (aput A b (zs.take kept.n ++ ([y] ++ zs.drop (kept.n + 1)))) own := fun ho d κ' hne hod _ => ⟨by
        rw [hput, if_neg]; rintro rfl; rw [ho] at hod; cases hod; exact hne rfl, hod⟩
      rcases g6 with ⟨k1, k2, k3, k4⟩ | ⟨b', zs', k1, k2, k3, k4, k5, k6⟩
      · rw [a1] at k1; cases k1
        have g2' := g2
        rw [a2] at g2'
        have hz := Option.some.inj g2'
        obtain rfl : zs = us := congrArg Prod.fst hz
        refine ⟨own, hfix g4, ⟨h1.1, h1.2.1, a3⟩, by omega, by omega, .inr ⟨b, zs.take kept.n ++ ([y] ++ zs.drop (kept.n + 1)), g1, by rw [hput, if_pos rfl, k2], ?_, g4, fun j hj hjl => ?_, .inl ⟨a1, k2, by dsimp only; omega, ?_⟩⟩⟩
        · simp only [List.length_append, List.length_drop, List.length_singleton, ht]; omega
        · rw [← g5 j (by omega) hjl, List.getElem?_append_right (by omega), ht, List.getElem?_append_right (by simp; omega), List.getElem?_drop]
          congr 1
          simp only [List.length_singleton]; omega
        · rw [hnew, k4]
      · rw [a1] at k2; cases k2
        rw [a2] at k3; cases k3
        refine ⟨own, hfix k5, ⟨h1.1, h1.2.1, a3⟩, by omega, by omega, .inr ⟨c, us, g1, by rw [hput, if_neg (fun e => k1 e.symm)]; exact g2, g3, g4, fun j hj hjl => g5 j (by omega) hjl, .inr ⟨b, _, k1, a1, by rw [hput, if_pos rfl], ?_, k5, ?_⟩⟩⟩
        · simp only [List.length_append, List.length_drop, List.length_singleton, ht]; omega
        · rw [hnew, k6]
  · simp only [List.length_singleton] at a2 ⊢
    have hlen := hl1.length
    refine ⟨fun d => if d = b then some (.wt l) else own d, fun d κ' hne hod hn => ?_, ⟨h1.1, h1.2.1, a2⟩, by omega, by omega, ?_⟩
    · have hd : ¬ d = b := fun e => hn (by rw [e]; exact a1)
      exact ⟨by rw [aget_cons, if_neg (fun e => hd e.symm)], by simp [hd, hod]⟩
    · rcases h4 with ⟨rfl, _⟩ | ⟨c, us, g1, g2, g3, g4, g5, g6⟩
      · simp only at hx; omega
      · have hc : ¬ b = c := fun e => by rw [e, g2] at a1; cases a1
        refine .inr ⟨c, us, g1, by rw [aget_cons, if_neg hc]; exact g2, g3, by simp [g4], fun j hj hjl => g5 j (by omega) hjl, .inr ⟨b, aread A kept ++ [y], hc, rfl, by rw [aget_cons, if_pos rfl], by simp [hlen], by simp, ?_⟩⟩
        rw [hl2, List.take_of_length_le (by rw [List.length_append, ← hl2, hlen]; simp)]
theorem LK.rest (h : LK A own l list kept (x + 1) L0 K0) (h0 : 0 ≤ x) (hx : x < list.n) : ((0 : Int) ≤ x + 1 ∧ x + 1 ≤ (list.n : Int)) ∧ SrcOk A (rlo list (x + 1)) ∧ aread A (rlo list (x + 1)) = L0.drop (x + 1).toNat := by
  obtain ⟨h1, h2, h3, h4⟩ := h
  refine ⟨⟨h2, h3⟩, ?_⟩
  rcases h4 with ⟨rfl, _⟩ | ⟨b, zs, g1, g2, g3, g4, g5, g6⟩
  · simp only at hx; omega
  · have hN : (x + 1).toNat ≤ list.n := by omega
    have hd : (zs.drop (x + 1).toNat).take (list.n - (x + 1).toNat) = L0.drop (x + 1).toNat := by
      apply List.ext_getElem?
      intro j
      by_cases hj : j < list.n - (x + 1).toNat
      · rw [List.getElem?_take_of_lt hj, List.getElem?_drop, List.getElem?_drop]
        exact g5 _ (by omega) (by omega)
      · rw [List.getElem?_eq_none (by rw [List.length_take]; omega), List.getElem?_eq_none (by rw [List.length_drop]; omega)]
    unfold rlo
    by_cases hc : list.cap = (x + 1).toNat
    · rw [if_pos hc]
      by_cases he : list.n = (x + 1).toNat
      · refine ⟨.inl (by dsimp only; omega), ?_⟩
        unfold aread
        rw [g1]
        simp only [List.drop_zero]
        rw [List.drop_eq_nil_of_le (by omega), show list.n - (x + 1).toNat = 0 by omega, List.take_zero]
      · exfalso
        have := h1.2.1
        omega
    · rw [if_neg hc, g1]
      refine ⟨.inr ⟨b, 0 + (x + 1).toNat, rfl, by rw [g2]; rfl, by simp [acont, g2]; omega⟩, ?_⟩
      unfold aread
      simp only [Option.map_some, acont, g2, Option.getD_some, Nat.zero_add]
      exact hd
end lk
end Go.Vc
