/- What is learned of a conflict: the walk. No program in sight. -/
import Derived.Test.YtmdoicffgeihcaaGreatDoorPlainT11
set_option linter.unusedVariables false
namespace Go.Vc
theorem sc_mono {seen : List Bool} {T starts : List Int} {k q : Nat} (h : sc seen T starts q = true) : sc (seen.set k true) T starts q = true := by
  unfold sc at *
  rw [Bool.and_eq_true] at *
  refine ⟨h.1, ?_⟩
  have h2 := h.2
  unfold ix at h2 ⊢
  rw [List.getD_eq_getElem?_getD] at *
  rw [List.getElem?_set]
  split
  · split
    · rfl
    · rename_i h3 h4
      rw [← h3, List.getElem?_eq_none (by omega)] at h2; exact h2
  · exact h2
section
variable {n : Int} {cs : List Raw} {watch : List (Int × Raw)} {value level reason T starts : List Int} {head : Int} {heat : List Unit} {proof : List (Bool × List Int)} {dead : Bool} {A : Arena} {own : Own} {L : List (List Int)}
/-- The last loop: what was decided last comes to the second place. -/
theorem learn_end (ht : TI n value level reason T starts (clsOf A cs)) {P : Int} {O : List Int} (hO : ∀ y ∈ O, ∃ q, T[q]? = some (-y) ∧ 1 ≤ lev starts q ∧ lev starts q < starts.length) (hlen : (O.length : Int) ≤ n) (hst : starts ≠ []) {Q : List Int → Int → List Unit → Prop} {heat' : List Unit}
    (hq : ∀ O' level', O'.Perm O → (∀ y ∈ O', ∃ q, T[q]? = some (-y) ∧ 1 ≤ lev starts q ∧ lev starts q ≤ level') → 0 ≤ level' → level' < starts.length → (O' = [] → level' = 0) → (∀ w D, O' = w :: D → ∃ q, T[q]? = some (-w) ∧ lev starts q = level') → Q (-P :: O') level' heat') :
    VLoop (σ := List Int × Int × Int) (-P :: O, 0, 1) fun (out_2371, level_2375, k_2377) xnext_2549 =>
      (Len out_2371 →
      (k_2377 < (out_2371.length : Int) →
      VMeet (σ := List Int × Int) (fun (out_2630, level_2634) =>
      I64 (k_2377 + 1) ∧
      xnext_2549 (out_2630, level_2634, (k_2377 + 1))) fun J_2636 =>
      In k_2377 out_2371 ∧
      (I64 (ix out_2371 k_2377) →
      In k_2377 out_2371 ∧
      (I64 (ix out_2371 k_2377) →
      I64 (-(ix out_2371 k_2377)) ∧
      In (max (ix out_2371 k_2377) (-(ix out_2371 k_2377))) level ∧
      (I64 (ix level (max (ix out_2371 k_2377) (-(ix out_2371 k_2377)))) →
      (level_2375 < (ix level (max (ix out_2371 k_2377) (-(ix out_2371 k_2377)))) →
      In k_2377 out_2371 ∧
      (I64 (ix out_2371 k_2377) →
      In 1 out_2371 ∧
      (I64 (ix out_2371 1) →
      In 1 out_2371 ∧
      In k_2377 (out_2371.set (1 : Int).toNat (ix out_2371 k_2377)) ∧
      J_2636 (((out_2371.set (1 : Int).toNat (ix out_2371 k_2377)).set k_2377.toNat (ix out_2371 1)), (ix level (max (ix out_2371 k_2377) (-(ix out_2371 k_2377)))))))) ∧
      (¬ (level_2375 < (ix level (max (ix out_2371 k_2377) (-(ix out_2371 k_2377))))) →
      J_2636 (out_2371, level_2375)))))) ∧
      (¬ (k_2377 < (out_2371.length : Int)) →
      Q out_2371 level_2375 heat')) := by
  have hn := ht.hn
  have hpos : 1 ≤ starts.length := List.length_pos_iff.2 hst
  have hlv : ∀ y ∈ O, ∃ q, T[q]? = some (-y) ∧ 1 ≤ lev starts q ∧ lev starts q < starts.length ∧ ix level (av y) = lev starts q := fun y hy => by
    obtain ⟨q, g1, g2, g3⟩ := hO y hy
    exact ⟨q, g1, g2, g3, by rw [← ht.lvl q _ g1, av_neg]⟩
  refine ⟨fun s => ∃ O', s.1 = -P :: O' ∧ O'.Perm O ∧ 1 ≤ s.2.2 ∧ s.2.2 ≤ (O'.length : Int) + 1 ∧ 0 ≤ s.2.1 ∧ s.2.1 < starts.length ∧ (∀ (j : Nat) y, O'[j]? = some y → (j : Int) + 1 < s.2.2 → ix level (av y) ≤ s.2.1) ∧ (s.2.2 = 1 → s.2.1 = 0) ∧ (2 ≤ s.2.2 → ∃ w D, O' = w :: D ∧ ix level (av w) = s.2.1),
    fun s => ((O.length : Int) + 2 - s.2.2).toNat, ⟨O, rfl, List.Perm.refl _, by simp, by simp; omega, by simp, by simp; omega, fun j y _ h => by simp at h; omega, fun _ => rfl, fun h => by simp at h⟩, ?_⟩
  rintro ⟨out, lv, k⟩ ⟨O', rfl, hp, hk1, hk2, hl0, hlc, hall, hone, htwo⟩
  dsimp only at hk1 hk2 hl0 hlc hall hone htwo ⊢
  have hpl := hp.length_eq
  intro _
  simp only [List.length_cons]
  refine ⟨fun hk => ?_, fun hk => ?_⟩
  · have hkO : (k - 1).toNat < O'.length := by omega
    have hget : O'[(k - 1).toNat]? = some (O'[(k - 1).toNat]) := List.getElem?_eq_getElem hkO
    have hget' : (-P :: O')[k.toNat]? = some (O'[(k - 1).toNat]) := by
      rw [show k.toNat = (k - 1).toNat + 1 by omega]; simp
    have hixk : ix (-P :: O') k = O'[(k - 1).toNat] := by have := ix_getE hget'; rwa [show ((k.toNat : Nat) : Int) = k by omega] at this
    generalize O'[(k - 1).toNat] = y at *
    have hyO : y ∈ O := hp.mem_iff.1 (List.mem_of_getElem? hget)
    obtain ⟨q, g1, g2, g3, g4⟩ := hlv y hyO
    have hylit := ht.lits _ (List.mem_of_getElem? g1)
    have hy64 := ht.i64 hylit
    rw [hixk]
    have hmax : max y (-y) = av y := rfl
    rw [hmax, g4]
    have hinl : In (av y) level := by have := hy64.2.2.1; rw [show max (-y) (- -y) = av y by unfold av; omega] at this; exact this
    have hiny : In k (-P :: O') := ⟨by omega, by simp; omega⟩
    refine ⟨fun s => ∃ O', s.1 = -P :: O' ∧ O'.Perm O ∧ 0 ≤ s.2 ∧ s.2 < starts.length ∧ (∀ (j : Nat) y, O'[j]? = some y → (j : Int) + 1 < k + 1 → ix level (av y) ≤ s.2) ∧ ∃ w D, O' = w :: D ∧ ix level (av w) = s.2, ?_, hiny, fun _ => ⟨hiny, fun _ => ⟨by have := lit_av ht.okn hylit; unfold I64; unfold av at this; omega, hinl, fun _ => ⟨fun hgt => ⟨hiny, fun _ => ⟨⟨by omega, by simp; omega⟩, fun _ => ⟨⟨by omega, by simp; omega⟩, ⟨by omega, by simp; omega⟩, ?_⟩⟩⟩, fun hle => ?_⟩⟩⟩⟩
    · rintro ⟨o2, lv2⟩ ⟨O2, rfl, a1, a2, a3, a4, a5⟩
      have := a1.length_eq
      exact ⟨by unfold I64; omega, ⟨O2, rfl, a1, by omega, by omega, a2, a3, a4, fun e => by omega, fun _ => a5⟩, by first | omega | (dsimp only; omega)⟩
    · -- a later one
      cases hO' : O' with
      | nil => rw [hO'] at hkO; simp at hkO
      | cons w R =>
        subst hO'
        have hix1 : ix (-P :: w :: R) 1 = w := rfl
        rw [hix1]
        by_cases hk0 : k = 1
        · subst hk0
          have : y = w := by simpa using hget.symm
          subst this
          exact ⟨y :: R, by simp, hp, by omega, g3, fun j z hz hj => by
            have : j = 0 := by omega
            subst this
            simp at hz; subst hz; omega, y, R, rfl, g4⟩
        · obtain ⟨j0, hj0⟩ : ∃ j0, (k - 1).toNat = j0 + 1 := ⟨(k - 1).toNat - 1, by omega⟩
          rw [hj0, List.getElem?_cons_succ] at hget
          have e1 : ((-P :: w :: R).set (1 : Int).toNat y).set k.toNat w = -P :: y :: R.set j0 w := by
            rw [show k.toNat = j0 + 2 by omega]; rfl
          rw [e1]
          obtain ⟨w', D', e2, e3⟩ := htwo (by omega)
          obtain ⟨rfl, rfl⟩ := List.cons.inj e2
          refine ⟨y :: R.set j0 w, rfl, (perm_set hget).trans hp, by omega, g3, fun j z hz hj => ?_, y, _, rfl, g4⟩
          cases j with
          | zero => simp at hz; subst hz; omega
          | succ j =>
            rw [List.getElem?_cons_succ] at hz
            rcases get_set_cases hz with ⟨_, rfl, _⟩ | ⟨hne, hz⟩
            · omega
            · have := hall (j + 1) z (by simpa using hz) (by omega)
              omega
    · -- not later
      have hk0 : k ≠ 1 := fun e => by have := hone e; omega
      refine ⟨O', rfl, hp, hl0, hlc, fun j z hz hj => ?_, htwo (by omega)⟩
      by_cases e : (j : Int) + 1 < k
      · exact hall j z hz e
      · have : j = (k - 1).toNat := by omega
        subst this
        rw [hget] at hz; cases hz; omega
  · refine hq O' lv hp (fun y hy => ?_) hl0 hlc (fun e => hone (by have := congrArg List.length e; rw [List.length_nil] at this; omega)) (fun w D e => ?_)
    · obtain ⟨j, hj⟩ := List.getElem?_of_mem hy
      obtain ⟨q, g1, g2, g3, g4⟩ := hlv y (hp.mem_iff.1 hy)
      have := hall j y hj (by have := (List.getElem?_eq_some_iff.1 hj).1; omega)
      exact ⟨q, g1, g2, by omega⟩
    · obtain ⟨w', D', e2, e3⟩ := htwo (by have := congrArg List.length e; rw [List.length_cons] at this; omega)
      rw [e] at e2
      obtain ⟨rfl, rfl⟩ := List.cons.inj e2
      obtain ⟨q, g1, g2, g3, g4⟩ := hlv w (hp.mem_iff.1 (by rw [e]; simp))
      exact ⟨q, g1, by omega⟩
theorem learn_ok (hS : SI n cs watch value level reason T starts head A own) (hRI : RI L (clsOf A cs)) (hheat : (heat.length : Int) = n + 1) {i : Nat} {C0 : List Int} (hC0 : (clsOf A cs)[i]? = some C0) (hf : ∀ y ∈ C0, -y ∈ T)
    (hcur : ∃ y ∈ C0, ∃ q : Nat, T[q]? = some (-y) ∧ lev starts q = starts.length) (hst : starts ≠ []) {Q : List Int → Int → List Unit → Prop}
    (hq : ∀ P O level' heat', heat'.length = heat.length → (∃ q, T[q]? = some P ∧ lev starts q = starts.length) → (∀ y ∈ O, ∃ q, T[q]? = some (-y) ∧ 1 ≤ lev starts q ∧ lev starts q ≤ level') → (O.map av).Nodup → RUP n L (-P :: O) → 0 ≤ level' → level' < starts.length → (O = [] → level' = 0) →
      (∀ w D, O = w :: D → ∃ q, T[q]? = some (-w) ∧ lev starts q = level') → Q (-P :: O) level' heat') : V_learn n cs watch value level reason T starts head heat proof dead A (i : Int) Q := by
  have ht := hS.ti
  have hn := ht.hn
  have hTn := ht.len
  have hpos : 1 ≤ starts.length := List.length_pos_iff.2 hst
  have hlt0 := (List.getElem?_eq_some_iff.1 hC0).1
  rw [clsOf_length] at hlt0
  have hinSeen : ∀ (seen : List Bool) (l : Int), (seen.length : Int) = n + 1 → isLit n l = true → In (av l) seen := fun seen l h1 h2 => by
    have := lit_av ht.okn h2; exact ⟨by omega, by omega⟩
  refine ⟨by unfold I64; omega, ⟨by omega, by omega, by omega⟩, fun _ => ⟨⟨by omega, by omega⟩, ?_⟩⟩
  refine ⟨fun s => ∃ (m j : Nat) (C O : List Int), s.1.length = heat.length ∧ s.2.2.2.2.1 = (m : Int) ∧ m ≤ T.length ∧ s.2.2.2.2.2.1 = cs.getD j rnil ∧ j < cs.length ∧ (clsOf A cs)[j]? = some C ∧ s.2.2.1 = 0 :: O ∧ LM n T starts s.2.1 O s.2.2.2.1 m ∧
      (∀ l ∈ C, l = s.2.2.2.2.2.2 ∨ ∃ q, q < m ∧ T[q]? = some (-l)) ∧ ((s.2.2.2.2.2.2 = 0 ∧ ∃ y ∈ C, ∃ q : Nat, T[q]? = some (-y) ∧ lev starts q = starts.length) ∨ 1 ≤ s.2.2.2.1) ∧
      (∀ S, Clo n L S → (∀ y ∈ O, S (-y)) → (∀ q t, q < m → T[q]? = some t → sc s.2.1 T starts q = true → S t) → (∀ l ∈ C, l ≠ s.2.2.2.2.2.2 → S (-l)) → False),
    fun s => s.2.2.2.2.1.toNat, ⟨T.length, i, C0, [], rfl, rfl, Nat.le_refl _, by simp [ix_cs], hlt0, hC0, rfl, ?_, fun l hl => ?_, .inl ⟨rfl, hcur⟩, fun S hSc _ _ hall => ?_⟩, ?_⟩
  · refine ⟨by simp; omega, ?_, fun q t _ h => ?_, List.nodup_nil, fun y hy => by cases hy⟩
    · have : cnt (List.replicate (n + 1).toNat false) T starts T.length = 0 := by
        unfold cnt
        rw [List.length_eq_zero_iff, List.filter_eq_nil_iff]
        intro q _
        unfold sc ix
        rw [List.getD_eq_getElem?_getD, List.getElem?_replicate]
        split <;> simp
      simp [this]
    · exfalso
      unfold ix at h
      rw [List.getD_eq_getElem?_getD, List.getElem?_replicate] at h
      split at h <;> simp at h
  · obtain ⟨q, hq⟩ := List.getElem?_of_mem (hf l hl)
    exact .inr ⟨q, (List.getElem?_eq_some_iff.1 hq).1, hq⟩
  · obtain ⟨g, hg, hgx⟩ := hRI C0 (List.mem_of_getElem? hC0)
    have hlC := (hS.cw C0 (List.mem_of_getElem? hC0)).2.2.1
    exact hSc.none hg hgx hlC fun x hx => hall x hx (by have := mem_lits hlC hx; rw [isLit_iff] at this; exact this.1)
  rintro ⟨heat1, seen1, out1, op1, at1, c, p⟩ ⟨m, j, C, O, hh1, rfl, hm, rfl, hj, hC, rfl, hLM, hCp, hop, hD⟩
  dsimp only at hh1 hLM hCp hop hD ⊢
  have hCm := List.mem_of_getElem? hC
  have hcw := hS.cw C hCm
  have hlies := hS.mo (.cl j)
  simp only [FF] at hlies
  have hCe : C = aread A (cs.getD j rnil) := by rw [clsOf_get hj] at hC; exact (Option.some.inj hC).symm
  have hclen := hlies.length
  rw [← hCe] at hclen
  generalize hc : cs.getD j rnil = c at *
  refine ⟨by unfold I64; have := hcw.2.2.2; omega, ?_⟩
  refine ⟨fun s => 0 ≤ s.2.2.2.2 ∧ s.2.2.2.2 ≤ c.n ∧ ∃ O, s.1.length = heat.length ∧ s.2.2.1 = 0 :: O ∧ LM n T starts s.2.1 O s.2.2.2.1 m ∧ ((p = 0 ∧ ∃ y ∈ C, ∃ q : Nat, T[q]? = some (-y) ∧ lev starts q = starts.length) ∨ 1 ≤ s.2.2.2.1) ∧
      (∀ S, Clo n L S → (∀ y ∈ O, S (-y)) → (∀ q t, q < m → T[q]? = some t → sc s.2.1 T starts q = true → S t) → (∀ l ∈ C, l ≠ p → S (-l)) → False) ∧ (∀ l ∈ C.take s.2.2.2.2.toNat, l ≠ p → (∃ q, T[q]? = some (-l) ∧ lev starts q = 0) ∨ ix s.2.1 (av l) = true),
    fun s => ((c.n : Int) - s.2.2.2.2).toNat, ⟨by simp, by simp, O, hh1, rfl, hLM, hop, hD, fun l hl => by simp at hl⟩, ?_⟩
  clear hLM hop hD hh1
  rintro ⟨heat2, seen, out2, op, x⟩ ⟨hx0, hx1, O, hh, rfl, hLM, hop, hD, hdone⟩
  dsimp only at hx0 hx1 hh hLM hop hD hdone ⊢
  have hcntm : (cnt seen T starts m : Int) ≤ n := by
    have h1 : cnt seen T starts m ≤ m := by unfold cnt; have := List.length_filter_le (sc seen T starts) (List.range m); rw [List.length_range] at this; exact this
    omega
  refine ⟨fun hx => ?_, fun hx => ?_⟩
  · -- one literal
    obtain ⟨i1, r1, e1⟩ := hlies.rd (i := x) hx0 hx
    rw [← hCe] at e1
    have hgx : C[x.toNat]? = some (ix C x) := ix_get hx0 (by omega)
    have hmx := List.mem_of_getElem? hgx
    have hlx := mem_lits hcw.2.2.1 hmx
    have hsplit : C.take (x + 1).toNat = C.take x.toNat ++ [ix C x] := take_ix hx0 (by omega)
    rw [e1]
    generalize ix C x = l at *
    have hl64 := ht.i64 hlx
    have hmax : max l (-l) = av l := rfl
    rw [hmax] at hl64 ⊢
    have hins := hinSeen seen l hLM.len hlx
    refine ⟨fun s => ∃ O, s.1.length = heat.length ∧ s.2.2.1 = 0 :: O ∧ LM n T starts s.2.1 O s.2.2.2 m ∧ ((p = 0 ∧ ∃ y ∈ C, ∃ q : Nat, T[q]? = some (-y) ∧ lev starts q = starts.length) ∨ 1 ≤ s.2.2.2) ∧
      (∀ S, Clo n L S → (∀ y ∈ O, S (-y)) → (∀ q t, q < m → T[q]? = some t → sc s.2.1 T starts q = true → S t) → (∀ l ∈ C, l ≠ p → S (-l)) → False) ∧ (∀ l ∈ C.take (x + 1).toNat, l ≠ p → (∃ q, T[q]? = some (-l) ∧ lev starts q = 0) ∨ ix s.2.1 (av l) = true), ?_, i1, r1, hl64.1, ?_⟩
    · rintro ⟨h3, s3, o3, op3⟩ ⟨O3, a1, a2, a3, a4, a5, a6⟩
      exact ⟨by unfold I64; have := hcw.2.2.2; omega, ⟨by omega, by omega, O3, a1, a2, a3, a4, a5, a6⟩, by first | omega | (dsimp only; omega)⟩
    -- what is passed over
    have pass : (l ≠ p → (∃ q, T[q]? = some (-l) ∧ lev starts q = 0) ∨ ix seen (av l) = true) → ∃ O', (heat2.length = heat.length ∧ (0 :: O) = 0 :: O' ∧ LM n T starts seen O' op m ∧ ((p = 0 ∧ ∃ y ∈ C, ∃ q : Nat, T[q]? = some (-y) ∧ lev starts q = starts.length) ∨ 1 ≤ op) ∧
        (∀ S, Clo n L S → (∀ y ∈ O', S (-y)) → (∀ q t, q < m → T[q]? = some t → sc seen T starts q = true → S t) → (∀ l ∈ C, l ≠ p → S (-l)) → False) ∧ (∀ l ∈ C.take (x + 1).toNat, l ≠ p → (∃ q, T[q]? = some (-l) ∧ lev starts q = 0) ∨ ix seen (av l) = true)) := fun hpass => by
      refine ⟨O, hh, rfl, hLM, hop, hD, fun l' hl' hne => ?_⟩
      rw [hsplit] at hl'
      rcases List.mem_append.1 hl' with h | h
      · exact hdone l' h hne
      · rw [List.mem_singleton.1 h] at hne ⊢; exact hpass hne
    refine ⟨fun b => (b = true → l ≠ p → (∃ q, T[q]? = some (-l) ∧ lev starts q = 0) ∨ ix seen (av l) = true) ∧ (b = false → l ≠ p ∧ ix seen (av l) = false ∧ ∃ q, q < m ∧ T[q]? = some (-l) ∧ lev starts q ≠ 0), ?_, fun e => ⟨fun _ hne => absurd e hne, fun e => (by cases e)⟩, fun hne => ⟨hins, fun hs => ⟨fun _ _ => .inr hs, fun e => (by cases e)⟩, fun hs => ⟨hl64.2.2.1, fun _ => ?_⟩⟩⟩
    rotate_left
    · obtain ⟨q, hqm, hqT⟩ := (hCp l hmx).resolve_left hne
      have hlv := ht.lvl q _ hqT
      rw [av_neg] at hlv
      rw [hlv]
      exact ⟨fun e _ => .inl ⟨q, hqT, of_decide_eq_true e⟩, fun e => ⟨hne, hs, q, hqm, hqT, of_decide_eq_false e⟩⟩
    rintro b ⟨hb1, hb2⟩
    refine ⟨fun e => pass (hb1 e), fun e => ?_⟩
    obtain ⟨hne, hs, q0, hq0m, hq0, hl0⟩ := hb2 e
    refine ⟨hins, warm_ok ⟨by have := lit_av ht.okn hlx; omega, by have := lit_av ht.okn hlx; omega⟩ (by omega) fun heat3 hh3 => ⟨hl64.2.2.1, fun _ _ => ?_⟩⟩
    have hlv := ht.lvl q0 _ hq0
    rw [av_neg] at hlv
    rw [hlv]
    obtain ⟨k1, k2⟩ := hLM.mark ht hq0 hs hl0
    have hnow : ix (seen.set (av l).toNat true) (av l) = true := ix_set_same (by have := lit_av ht.okn hlx; omega) (by have := lit_av ht.okn hlx; have := hLM.len; omega)
    have hdone' : ∀ l' ∈ C.take (x + 1).toNat, l' ≠ p → (∃ q, T[q]? = some (-l') ∧ lev starts q = 0) ∨ ix (seen.set (av l).toNat true) (av l') = true := fun l' hl' hne' => by
      rw [hsplit] at hl'
      rcases List.mem_append.1 hl' with h | h
      · rcases hdone l' h hne' with h | h
        · exact .inl h
        · right
          by_cases e : av l = av l'
          · rw [← e]; exact hnow
          · rw [ix_set_other (by have := lit_av ht.okn hlx; omega) (by unfold av; omega) e]; exact h
      · rw [List.mem_singleton.1 h]; exact .inr hnow
    refine ⟨fun hc2 => ⟨by have := hLM.op; unfold I64; omega, ?_⟩, fun hc2 => ⟨?_, ?_⟩⟩
    · exact ⟨O, hh3.trans hh, rfl, k1 hc2 hq0m, .inr (by have := hLM.op; dsimp only; omega), fun S a1 a2 a3 a4 => hD S a1 a2 (fun q t b1 b2 b3 => a3 q t b1 b2 (sc_mono b3)) a4, hdone'⟩
    · have := hLM.olen ht
      exact ⟨by simp; omega, by simp; unfold maxLen; omega⟩
    · refine ⟨O ++ [l], hh3.trans hh, rfl, k2 hc2, hop, fun S a1 a2 a3 a4 => hD S a1 (fun y hy => a2 y (List.mem_append_left _ hy)) (fun q t b1 b2 b3 => a3 q t b1 b2 (sc_mono b3)) a4, hdone'⟩
  · -- all literals are looked at
    have hCx : C.take x.toNat = C := List.take_of_length_le (by omega)
    rw [hCx] at hdone
    have hD2 : ∀ S, Clo n L S → (∀ y ∈ O, S (-y)) → (∀ q t, q < m → T[q]? = some t → sc seen T starts q = true → S t) → False := fun S a1 a2 a3 => hD S a1 a2 a3 fun l hl hne => by
      rcases hdone l hl hne with ⟨q, h1, h2⟩ | h
      · exact level0 ht hS.cw hRI a1 (q + 1) q (-l) (by omega) h1 h2
      · obtain ⟨q, hqm, hqT⟩ := (hCp l hl).resolve_left hne
        rcases (hLM.hseen q (-l) hqT (by rw [av_neg]; exact h)).2 with h3 | h3
        · refine a3 q (-l) hqm hqT ?_
          unfold sc
          rw [ixT hqT, av_neg, h]; simp [h3]
        · rw [Int.neg_neg] at h3; exact a2 l h3
    have hop1 : 1 ≤ op := by
      rcases hop with ⟨hp0, y, hy, q, hq1, hq2⟩ | h
      · have hylit := mem_lits hcw.2.2.1 hy
        have hyp : y ≠ p := by rw [hp0]; rw [isLit_iff] at hylit; exact hylit.1
        rcases hdone y hy hyp with ⟨q', h1, h2⟩ | h
        · have := ht.pos hq1 h1
          subst this; omega
        · obtain ⟨q', hqm, hqT⟩ := (hCp y hy).resolve_left hyp
          have := ht.pos hq1 hqT
          subst this
          have h9 : sc seen T starts q = true := by unfold sc; rw [ixT hq1, av_neg, h]; simp [hq2]
          have := cnt_pos.2 ⟨q, hqm, h9⟩
          have := hLM.op
          omega
      · exact h
    have hcnt1 : 1 ≤ cnt seen T starts m := by have := hLM.op; omega
    have hm1 : 1 ≤ m := by obtain ⟨q, h, _⟩ := cnt_pos.1 hcnt1; omega
    refine ⟨by unfold I64; omega, fun a => 0 ≤ a ∧ a < (m : Int) ∧ cnt seen T starts (a.toNat + 1) = cnt seen T starts m ∧ ∀ q, a.toNat < q → q < m → ix seen (av (ix T (q : Int))) = false, fun a => a.toNat, ⟨by omega, by omega, by rw [show ((m : Int) - 1).toNat + 1 = m by omega], fun q h1 h2 => by omega⟩, ?_⟩
    rintro a ⟨ha0, ham, hac, hau⟩
    have haT : a < (T.length : Int) := by omega
    have hga : T[a.toNat]? = some (ix T a) := ix_get ha0 haT
    have hlita := ht.lits _ (List.mem_of_getElem? hga)
    have hixa : ix T ((a.toNat : Nat) : Int) = ix T a := by rw [show ((a.toNat : Nat) : Int) = a by omega]
    generalize hP : ix T a = P at *
    have hP64 := ht.i64 hlita
    have hmaxP : max P (-P) = av P := rfl
    rw [hmaxP] at hP64 ⊢
    have hinP := hinSeen seen P hLM.len hlita
    refine ⟨⟨ha0, haT⟩, fun _ => ⟨⟨ha0, haT⟩, fun _ => ⟨hP64.1, hinP, fun hns => ?_, fun hs => ?_⟩⟩⟩
    · simp only [Bool.not_eq_true'] at hns
      have hsc : sc seen T starts a.toNat = false := by unfold sc; rw [hixa, hns]; simp
      have h2 := cnt_succ seen T starts a.toNat
      rw [hsc] at h2
      simp only [Bool.false_eq_true, if_false, Nat.add_zero] at h2
      have h3 : 1 ≤ cnt seen T starts a.toNat := by omega
      obtain ⟨q, hqa, _⟩ := cnt_pos.1 h3
      refine ⟨by unfold I64; omega, ⟨by omega, by omega, by rw [show (a - 1).toNat + 1 = a.toNat by omega]; omega, fun q h4 h5 => ?_⟩, by first | omega | (dsimp only; omega)⟩
      by_cases e : q = a.toNat
      · subst e; rw [hixa]; exact hns
      · exact hau q (by omega) h5
    · simp only [Bool.not_eq_false'] at hs
      -- the last one that is marked is of this level
      have hlevP : lev starts a.toNat = starts.length := by
        obtain ⟨q, hqa, hsq⟩ := cnt_pos.1 (by rw [hac]; exact hcnt1 : 1 ≤ cnt seen T starts (a.toNat + 1))
        unfold sc at hsq
        rw [Bool.and_eq_true] at hsq
        have := of_decide_eq_true hsq.1
        have h1 := lev_mono (starts := starts) (p := q) (q := a.toNat) (by omega)
        have h2 := lev_le starts a.toNat
        omega
      have hscP : sc seen T starts a.toNat = true := by unfold sc; rw [hixa, hs, hlevP]; simp
      have h2 := cnt_succ seen T starts a.toNat
      rw [hscP, hac] at h2
      simp only [if_true] at h2
      have hopc : op - 1 = (cnt seen T starts a.toNat : Int) := by have := hLM.op; omega
      refine ⟨⟨ha0, haT⟩, fun _ => ⟨by unfold I64; omega, fun h0 => ⟨hP64.1, ⟨by omega, by simp only [List.length_cons]; omega⟩, ?_⟩, fun h0 => ⟨hP64.1, hP64.2.2.2, fun _ => ?_⟩⟩⟩
      · -- it is the only one
        have hset : (0 :: O).set (0 : Int).toNat (-P) = -P :: O := rfl
        rw [hset]
        refine learn_end ht (fun y hy => by obtain ⟨q, g1, g2, g3, _⟩ := hLM.out y hy; exact ⟨q, g1, g2, g3⟩) (hLM.olen ht) hst fun O' lv hp h3 h4 h5 h6 h7 => ?_
        refine hq P O' lv heat2 hh ⟨a.toNat, hga, hlevP⟩ h3 ((hp.map av).nodup_iff.2 hLM.nd) (fun S hSc hall => ?_) h4 h5 h6 h7
        refine hD2 S hSc (fun y hy => hall y (List.mem_cons_of_mem _ (hp.mem_iff.2 hy))) fun q t hqm hqt hsq => ?_
        by_cases e : q = a.toNat
        · subst e
          rw [hga] at hqt; cases hqt
          have := hall (-P) (by simp)
          rwa [Int.neg_neg] at this
        · exfalso
          rcases Nat.lt_or_ge q a.toNat with hlt | hge
          · have := cnt_pos.2 ⟨q, hlt, hsq⟩
            omega
          · have := hau q (by omega) hqm
            unfold sc at hsq
            rw [this] at hsq; simp at hsq
      · -- its reason
        have hc1 : 1 ≤ cnt seen T starts a.toNat := by omega
        obtain ⟨q1, hq1a, hsq1⟩ := cnt_pos.1 hc1
        have hlevq1 : lev starts q1 = starts.length := by unfold sc at hsq1; rw [Bool.and_eq_true] at hsq1; exact of_decide_eq_true hsq1.1
        rcases ht.rsn a.toNat P hga with ⟨_, hdec⟩ | ⟨_, hr0, D', hrD, hrx⟩
        · exfalso
          have := lev_start hdec hq1a
          omega
        have hrlt := (List.getElem?_eq_some_iff.1 hrD).1
        rw [clsOf_length] at hrlt
        refine ⟨⟨hr0, by omega⟩, ⟨a.toNat, (ix reason (av P)).toNat, P :: D', O, hh, by omega, by omega, rfl, hrlt, hrD, rfl, ⟨hLM.len, hopc, hLM.hseen, hLM.nd, hLM.out⟩, fun l hl => ?_, .inr (by omega), fun S hSc a1 a2 a3 => ?_⟩, by first | omega | (dsimp only; omega)⟩
        · rcases List.mem_cons.1 hl with rfl | hl
          · exact .inl rfl
          · obtain ⟨q, g1, g2⟩ := mem_take_pos (hrx l hl)
            exact .inr ⟨q, g1, g2⟩
        · obtain ⟨g, hg, hgx⟩ := hRI _ (List.mem_of_getElem? hrD)
          have hSP : S P := hSc.unit hg hgx (hS.cw _ (List.mem_of_getElem? hrD)).2.2.1 fun y hy hne => a3 y hy hne
          refine hD2 S hSc a1 fun q t hqm hqt hsq => ?_
          rcases Nat.lt_trichotomy q a.toNat with hlt | heq | hgt
          · exact a2 q t hlt hqt hsq
          · subst heq
            rw [hga] at hqt; cases hqt; exact hSP
          · exfalso
            have := hau q hgt hqm
            unfold sc at hsq
            rw [this] at hsq; simp at hsq
end
end Go.Vc
