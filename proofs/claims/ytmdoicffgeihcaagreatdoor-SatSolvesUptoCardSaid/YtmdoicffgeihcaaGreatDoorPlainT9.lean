/- A clause is put in. No program in sight. -/
import Derived.Test.YtmdoicffgeihcaaGreatDoorPlainT8
set_option linter.unusedVariables false
namespace Go.Vc
/-- Each clause of the search has the literals of one of a list. -/
def RI (L Cl : List (List Int)) : Prop := ∀ C ∈ Cl, ∃ g ∈ L, ∀ x, x ∈ g ↔ x ∈ C
/-- Each clause of a list is always true, or one of the search's is within it. -/
def CV (F Cl : List (List Int)) : Prop := ∀ f ∈ F, (∃ x ∈ f, -x ∈ f) ∨ ∃ C ∈ Cl, ∀ x ∈ C, x ∈ f
theorem RI.cp {L Cl Cl' : List (List Int)} (h : RI L Cl) (hc : CP Cl Cl') : RI L Cl' := fun C hC => by
  obtain ⟨i, hi⟩ := List.getElem?_of_mem hC
  obtain ⟨D, hD, hp⟩ := hc.2 i C hi
  obtain ⟨g, hg, hx⟩ := h D (List.mem_of_getElem? hD)
  exact ⟨g, hg, fun x => (hx x).trans hp.mem_iff.symm⟩
theorem CP.back {Cl Cl' : List (List Int)} (hc : CP Cl Cl') {C : List Int} (hC : C ∈ Cl) : ∃ C' ∈ Cl', C'.Perm C := by
  obtain ⟨i, hi⟩ := List.getElem?_of_mem hC
  have hlt := (List.getElem?_eq_some_iff.1 hi).1
  have h2 : Cl'[i]? = some (Cl'[i]'(by rw [hc.1]; exact hlt)) := List.getElem?_eq_getElem _
  obtain ⟨D, hD, hp⟩ := hc.2 i _ h2
  rw [hi] at hD; cases hD
  exact ⟨_, List.mem_of_getElem? h2, hp⟩
theorem CV.cp {F Cl Cl' : List (List Int)} (h : CV F Cl) (hc : CP Cl Cl') : CV F Cl' := fun f hf => by
  rcases h f hf with h | ⟨C, hC, hx⟩
  · exact .inl h
  · obtain ⟨C', h1, h2⟩ := hc.back hC
    exact .inr ⟨C', h1, fun x hxC => hx x (h2.mem_iff.1 hxC)⟩
theorem RI.sup {L M Cl : List (List Int)} (h : RI L Cl) (hs : ∀ g ∈ L, g ∈ M) : RI M Cl := fun C hC => by
  obtain ⟨g, hg, hx⟩ := h C hC
  exact ⟨g, hs g hg, hx⟩
/-- What is true at level 0 is in each closed set. -/
theorem level0 {n : Int} {value level reason T starts : List Int} {Cl L : List (List Int)} (h : TI n value level reason T starts Cl) (hcw : CW n Cl) (hri : RI L Cl) {S : Int → Prop} (hS : Clo n L S) : ∀ (k p : Nat) (t : Int), p < k → T[p]? = some t → lev starts p = 0 → S t
  | 0, p, t, h, _, _ => by omega
  | k + 1, p, t, hk, hp, hl => by
    rcases h.rsn p t hp with ⟨_, hs⟩ | ⟨_, _, D, hD, hx⟩
    · exfalso
      have : 0 < (starts.filter fun s => decide (s ≤ (p : Int))).length := List.length_pos_of_mem (List.mem_filter.2 ⟨hs, by simp⟩)
      unfold lev at hl; omega
    · obtain ⟨g, hg, hgx⟩ := hri _ (List.mem_of_getElem? hD)
      refine hS.unit hg hgx (hcw _ (List.mem_of_getElem? hD)).2.2.1 fun x hxD hne => ?_
      rcases List.mem_cons.1 hxD with rfl | hxD
      · exact absurd rfl hne
      · obtain ⟨q, hq, hTq⟩ := mem_take_pos (hx x hxD)
        have h1 := lev_mono (starts := starts) (Nat.le_of_lt hq)
        have h2 := lev_nonneg starts q
        exact level0 h hcw hri hS k q (-x) (by omega) hTq (by omega)
theorem dead_all {n : Int} {value level reason T : List Int} {Cl L : List (List Int)} (h : TI n value level reason T [] Cl) (hcw : CW n Cl) (hri : RI L Cl) {g C : List Int} (hg : g ∈ L) (hgc : ∀ x, x ∈ g ↔ x ∈ C) (hC : litsOk n C = true) (hf : ∀ y ∈ C, -y ∈ T) : RUP n L [] := fun S hS _ => by
  refine hS.none hg hgc hC fun x hx => ?_
  obtain ⟨p, hp⟩ := List.getElem?_of_mem (hf x hx)
  exact level0 h hcw hri hS (p + 1) p (-x) (by omega) hp rfl
section
variable {n : Int} {cs : List Raw} {watch : List (Int × Raw)} {value level reason T starts : List Int} {head : Int} {heat : List Unit} {proof : List (Bool × List Int)} {dead : Bool} {A : Arena} {own : Own}
theorem clsOf_snoc {A : Arena} {cs : List Raw} {c : Raw} : clsOf A (cs ++ [c]) = clsOf A cs ++ [aread A c] := by simp [clsOf]
theorem keep_ok {c : Raw} {C : List Int} {Q : List Raw → List (Int × Raw) → Arena → Prop} (hmo : MemO A (FF (cs ++ [c]) watch) own) (hC : aread A c = C) (hws : ∀ k, WS (clsOf A cs) (wtOf A watch k) k) (hnd : C.Nodup) (hbig : cs.length < 67108864) (hlc : C.length ≤ 1048576)
    (hq : ∀ own' watch' A', MemO A' (FF (cs ++ [c]) watch') own' → clsOf A' (cs ++ [c]) = clsOf A cs ++ [C] → (∀ k, WS (clsOf A cs ++ [C]) (wtOf A' watch' k) k) → Q (cs ++ [c]) watch' A') : V_keep n cs watch value level reason T starts head heat proof dead A c Q := by
  have hl0 := hmo (.cl cs.length)
  rw [FF_cl'] at hl0
  have hlen := hl0.length
  rw [hC] at hlen
  intro _
  have hcap := hl0.cap
  refine ⟨⟨by rw [List.length_singleton]; omega, by rw [List.length_singleton]; unfold maxLen; omega⟩, by unfold I64; omega, ⟨by omega, by omega⟩, by simp only [rhi]; unfold I64; omega, ?_⟩
  have hk : ((rhi c (min 2 (c.n : Int))).n : Int) = min 2 (c.n : Int) := by simp only [rhi]; omega
  refine ⟨fun s => 0 ≤ s.2.2 ∧ s.2.2 ≤ min 2 (c.n : Int) ∧ ∃ own', MemO s.2.1 (FF (cs ++ [c]) s.1) own' ∧ clsOf s.2.1 (cs ++ [c]) = clsOf A cs ++ [C] ∧ ∀ k, wtOf s.2.1 s.1 k = wtOf A watch k ++ (if k ∈ C.take s.2.2.toNat then [(cs.length : Int)] else []),
    fun s => (min 2 (c.n : Int) - s.2.2).toNat, ⟨by simp, by simp; omega, own, hmo, by rw [clsOf_snoc, hC], fun k => by simp⟩, ?_⟩
  rintro ⟨w1, A1, x⟩ ⟨h0, h1, o1, m1, c1, v1⟩
  dsimp only at h0 h1 m1 c1 v1 ⊢
  rw [hk]
  refine ⟨fun hlt => ?_, fun hge => ?_⟩
  · have hl1 := m1 (.cl cs.length)
    rw [FF_cl'] at hl1
    have hr1 : aread A1 c = C := by
      have := c1
      rw [clsOf_snoc] at this
      have := List.append_inj_right' this rfl
      simpa using this
    obtain ⟨g1, g2, g3⟩ := hl1.rd (i := x) h0 (by omega)
    rw [hr1] at g3
    have hxC : C[x.toNat]? = some (ix C x) := ix_get h0 (by omega)
    generalize hu : ix C x = u at *
    have hag : ag A1 (rhi c (min 2 (c.n : Int))) x = u := g3
    rw [hag]
    have hlw := m1 (.wt u)
    simp only [FF] at hlw
    have hlwn := hlw.length
    have hbound : (wtOf A1 w1 u).length ≤ 134217728 := by
      rw [v1 u, List.length_append]
      have := ws_length (hws u)
      rw [clsOf_length] at this
      split <;> simp <;> omega
    refine ⟨⟨g1.1, h0, by rw [hk]; exact hlt⟩, g2, hlw.apok, ⟨by rw [List.length_singleton]; unfold wtOf at hbound; omega, by rw [List.length_singleton]; unfold maxLen; unfold wtOf at hbound; omega⟩, fun A2 r2 hA => ⟨by unfold I64; omega, ?_⟩⟩
    obtain ⟨o2, f2, l2, r2e⟩ := hlw.append hA
    refine ⟨⟨by omega, by omega, o2, fun κ => ?_, ?_, fun k => ?_⟩, by first | omega | (dsimp only; omega)⟩
    · by_cases hκ : κ = .wt u
      · subst hκ
        try dsimp only
        rw [FF_wt']; exact l2
      · try dsimp only
        rw [FF_wt hκ]; exact ((m1 κ).other hκ f2).1
    · try dsimp only
      rw [← c1]
      exact clsOf_fix m1 f2
    · try dsimp only
      have hsplit : C.take (x + 1).toNat = C.take x.toNat ++ [u] := by
        obtain ⟨q1, q2⟩ := List.getElem?_eq_some_iff.1 hxC
        rw [show (x + 1).toNat = x.toNat + 1 by omega, List.take_succ_eq_append_getElem q1, q2]
      have hnot : u ∉ C.take x.toNat := fun hm => by
        have : (C.take x.toNat ++ [u]).Nodup := by rw [← hsplit]; exact hnd.sublist (List.take_sublist _ _)
        rw [List.nodup_append] at this
        exact this.2.2 u hm u (by simp) rfl
      rw [hsplit]
      by_cases hku : k = u
      · subst hku
        have e : wtOf A2 (mset w1 k r2) k = wtOf A1 w1 k ++ [(cs.length : Int)] := by unfold wtOf; rw [mgetD_mset, if_pos rfl, r2e]
        rw [e, v1 k, if_neg hnot, if_pos (by simp)]; simp
      · have e : wtOf A2 (mset w1 u r2) k = wtOf A1 w1 k := by
          unfold wtOf; rw [mgetD_mset, if_neg (fun e => hku e.symm)]
          exact ((m1 (.wt k)).other (by intro e; cases e; exact hku rfl) f2).2
        rw [e, v1 k]
        have : k ∈ C.take x.toNat ++ [u] ↔ k ∈ C.take x.toNat := by simp [hku]
        simp only [this]
  · refine hq o1 w1 A1 m1 c1 fun k => ?_
    have hx : C.take x.toNat = C.take 2 := by
      rcases Nat.lt_or_ge C.length 2 with h2 | h2
      · rw [List.take_of_length_le (by omega), List.take_of_length_le (by omega)]
      · rw [show x.toNat = 2 by omega]
    rw [v1 k, hx]
    obtain ⟨n1, n2⟩ := hws k
    have hni : (cs.length : Int) ∉ wtOf A watch k := fun hm => by
      obtain ⟨D, _, hD, _⟩ := (n2 _).1 hm
      have := (List.getElem?_eq_some_iff.1 hD).1
      rw [clsOf_length] at this; omega
    refine ⟨?_, fun i => ?_⟩
    · rw [List.nodup_append]
      refine ⟨n1, by split <;> simp, fun a ha b hb => ?_⟩
      split at hb
      · rw [List.mem_singleton.1 hb]; rintro rfl; exact hni ha
      · cases hb
    · rw [List.mem_append, n2 i]
      have hlc' : (clsOf A cs).length = cs.length := clsOf_length
      constructor
      · rintro (⟨D, a0, hD, hkD⟩ | hi)
        · exact ⟨D, a0, by rw [List.getElem?_append_left (List.getElem?_eq_some_iff.1 hD).1]; exact hD, hkD⟩
        · split at hi
          · rename_i hkC
            rw [List.mem_singleton.1 hi]
            exact ⟨C, by omega, by rw [List.getElem?_append_right (by omega)]; simp [hlc'], hkC⟩
          · cases hi
      · rintro ⟨D, a0, hD, hkD⟩
        rcases Nat.lt_or_ge i.toNat (clsOf A cs).length with h2 | h2
        · rw [List.getElem?_append_left h2] at hD
          exact .inl ⟨D, a0, hD, hkD⟩
        · right
          have h3 := (List.getElem?_eq_some_iff.1 hD).1
          rw [List.length_append, List.length_singleton] at h3
          have e : i = (cs.length : Int) := by omega
          rw [List.getElem?_append_right h2, show i.toNat - (clsOf A cs).length = 0 by omega] at hD
          simp at hD
          subst hD
          rw [if_pos hkD, e]; simp
/-- A clause joins: the invariant but for the watched pairs. -/
theorem SI.join {c : Raw} {C : List Int} {watch' : List (Int × Raw)} {A' : Arena} {own' : Own} (h : SI n cs watch value level reason T starts head A own) (hbig : cs.length < 67108864) (hm : MemO A' (FF (cs ++ [c]) watch') own') (hc : clsOf A' (cs ++ [c]) = clsOf A cs ++ [C])
    (hw : ∀ k, WS (clsOf A cs ++ [C]) (wtOf A' watch' k) k) (hC : C ≠ [] ∧ C.Nodup ∧ litsOk n C = true ∧ C.length ≤ 1048576) : SI n (cs ++ [c]) watch' value level reason T starts head A' own' := by
  refine ⟨?_, ?_, hm, fun k => by rw [hc]; exact hw k, h.hd, h.st, by rw [List.length_append, List.length_singleton]; omega⟩
  · rw [hc]
    exact h.ti.turn fun i D hD => ⟨D, by rw [List.getElem?_append_left (List.getElem?_eq_some_iff.1 hD).1]; exact hD, fun t D' e _ => ⟨D', e, fun x hx => hx⟩⟩
  · rw [hc]
    intro D hD
    rcases List.mem_append.1 hD with hD | hD
    · exact h.cw D hD
    · rw [List.mem_singleton.1 hD]; exact hC
theorem QI.join {Cl : List (List Int)} {hd : Nat} {C : List Int} (h : QF Cl T starts hd) (hC : ∀ a ∈ C.take 2, ∀ q : Nat, T[q]? = some (-a) → q < hd → ∃ b ∈ C.take 2, ∃ p : Nat, T[p]? = some b ∧ lev starts p ≤ lev starts q) : QF (Cl ++ [C]) T starts hd := fun i D a q hD ha hq hlt => by
  rcases Nat.lt_or_ge i Cl.length with h1 | h1
  · rw [List.getElem?_append_left h1] at hD
    exact h i D a q hD ha hq hlt
  · rw [List.getElem?_append_right h1] at hD
    have := (List.getElem?_eq_some_iff.1 hD).1
    simp at this
    rw [show i - Cl.length = 0 by omega] at hD
    simp at hD
    subst hD
    exact .inr (hC a ha q hq hlt)
end
end Go.Vc
