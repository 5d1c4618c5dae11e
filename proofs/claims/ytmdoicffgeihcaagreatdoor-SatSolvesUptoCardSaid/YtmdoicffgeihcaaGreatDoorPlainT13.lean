/- Of a search that cannot go on: what of what was supposed makes it so. No program in sight. -/
import Derived.Test.YtmdoicffgeihcaaGreatDoorPlainT12
set_option linter.unusedVariables false
namespace Go.Vc
def markF (C : List Int) (seen : List (Int × Int)) : List (Int × Int) := C.foldl (fun m k => mset m (av k) 1) seen
def coreStep (level reason : List Int) (Cl : List (List Int)) (s : List (Int × Int) × List Int) (t : Int) : List (Int × Int) × List Int :=
  if mgetD s.1 (av t) 0 = 0 ∨ ix level (av t) = 0 then s else if ix reason (av t) < 0 then (s.1, s.2 ++ [t]) else (markF (Cl.getD (ix reason (av t)).toNat []) s.1, s.2)
def coreSel (out : List Int) (l : List Int) : List Int := l.foldl (fun core x => if x ∈ out ∧ x ∉ core then core ++ [x] else core) []
theorem markF_get : ∀ (C : List Int) (seen : List (Int × Int)) (v : Int), mgetD (markF C seen) v 0 = if ∃ k ∈ C, av k = v then 1 else mgetD seen v 0
  | [], seen, v => by simp [markF]
  | k :: C, seen, v => by
    have : markF (k :: C) seen = markF C (mset seen (av k) 1) := rfl
    rw [this, markF_get C, mgetD_mset]
    by_cases h1 : ∃ k' ∈ C, av k' = v
    · rw [if_pos h1, if_pos (by obtain ⟨k', h2, h3⟩ := h1; exact ⟨k', List.mem_cons_of_mem _ h2, h3⟩)]
    · rw [if_neg h1]
      by_cases h2 : av k = v
      · rw [if_pos h2, if_pos ⟨k, by simp, h2⟩]
      · rw [if_neg h2, if_neg]
        rintro ⟨k', h3, h4⟩
        rcases List.mem_cons.1 h3 with rfl | h3
        · exact h2 h4
        · exact h1 ⟨k', h3, h4⟩
theorem coreSel_snoc (out l : List Int) (x : Int) : coreSel out (l ++ [x]) = if x ∈ out ∧ x ∉ coreSel out l then coreSel out l ++ [x] else coreSel out l := by unfold coreSel; rw [List.foldl_append]; rfl
theorem coreSel_spec (out : List Int) : ∀ (l : List Int), (coreSel out l).Nodup ∧ (coreSel out l).Sublist l ∧ (∀ y, y ∈ coreSel out l ↔ y ∈ l ∧ y ∈ out) := fun l => by
  have key : ∀ (r l : List Int), l = r.reverse → (coreSel out l).Nodup ∧ (coreSel out l).Sublist l ∧ (∀ y, y ∈ coreSel out l ↔ y ∈ l ∧ y ∈ out) := by
    intro r
    induction r with
    | nil => rintro l rfl; exact ⟨List.nodup_nil, List.Sublist.refl _, fun y => by simp [coreSel]⟩
    | cons x r ih =>
      rintro l rfl
      obtain ⟨h1, h2, h3⟩ := ih _ rfl
      rw [List.reverse_cons, coreSel_snoc]
      generalize r.reverse = l at *
      by_cases hc : x ∈ out ∧ x ∉ coreSel out l
      · rw [if_pos hc]
        refine ⟨List.nodup_append.2 ⟨h1, by simp, fun a ha b hb => by rw [List.mem_singleton.1 hb]; rintro rfl; exact hc.2 ha⟩, List.Sublist.append h2 (List.Sublist.refl _), fun y => ?_⟩
        rw [List.mem_append, List.mem_append, List.mem_singleton, h3]
        constructor
        · rintro (h | rfl)
          · exact ⟨.inl h.1, h.2⟩
          · exact ⟨.inr rfl, hc.1⟩
        · rintro ⟨h | h, ho⟩
          · exact .inl ⟨h, ho⟩
          · exact .inr h
      · rw [if_neg hc]
        refine ⟨h1, h2.trans (List.sublist_append_left _ _), fun y => ?_⟩
        rw [List.mem_append, List.mem_singleton, h3]
        constructor
        · rintro ⟨h, ho⟩; exact ⟨.inl h, ho⟩
        · rintro ⟨h | rfl, ho⟩
          · exact ⟨h, ho⟩
          · by_cases hm : y ∈ coreSel out l
            · exact (h3 y).1 hm
            · exact absurd ⟨ho, hm⟩ hc
  exact key l.reverse l (by simp)
section
variable {n : Int} {cs : List Raw} {watch : List (Int × Raw)} {value level reason T starts : List Int} {head : Int} {heat : List Unit} {proof : List (Bool × List Int)} {dead : Bool} {A : Arena} {own : Own} {L : List (List Int)}
/-- What is so of what is marked, from a place of the trail on. -/
theorem core_inv (hS : SI n cs watch value level reason T starts head A own) (s0 : List (Int × Int) × List Int) : ∀ (j : Nat), j ≤ T.length →
    let s := ((T.drop (T.length - j)).reverse).foldl (coreStep level reason (clsOf A cs)) s0
    (∀ v, mgetD s0.1 v 0 ≠ 0 → mgetD s.1 v 0 ≠ 0) ∧ (∀ y ∈ s0.2, y ∈ s.2) ∧ ∀ (p : Nat) t, T.length - j ≤ p → T[p]? = some t → mgetD s.1 (av t) 0 ≠ 0 → lev starts p ≠ 0 → (ix reason (av t) < 0 → t ∈ s.2) ∧ (¬ ix reason (av t) < 0 → ∀ C, (clsOf A cs)[(ix reason (av t)).toNat]? = some C → ∀ y ∈ C, mgetD s.1 (av y) 0 ≠ 0)
  | 0, _ => by
    have : T.drop (T.length - 0) = [] := List.drop_eq_nil_of_le (by omega)
    simp only [this, List.reverse_nil, List.foldl_nil]
    refine ⟨fun v h => h, fun y h => h, fun p t hp ht => ?_⟩
    have := (List.getElem?_eq_some_iff.1 ht).1
    omega
  | j + 1, hj => by
    have ih := core_inv hS s0 j (by omega)
    have hlt : T.length - (j + 1) < T.length := by omega
    have hdrop : T.drop (T.length - (j + 1)) = T[T.length - (j + 1)] :: T.drop (T.length - j) := by
      rw [List.drop_eq_getElem_cons hlt, show T.length - (j + 1) + 1 = T.length - j by omega]
    have hk : T[T.length - (j + 1)]? = some (T[T.length - (j + 1)]) := List.getElem?_eq_getElem hlt
    generalize hkk : T.length - (j + 1) = k at *
    generalize T[k] = t0 at *
    simp only [hdrop, List.reverse_cons, List.foldl_append, List.foldl_cons, List.foldl_nil]
    generalize ((T.drop (T.length - j)).reverse).foldl (coreStep level reason (clsOf A cs)) s0 = s at *
    obtain ⟨i1, i2, i3⟩ := ih
    have hlv := hS.ti.lvl k t0 hk
    have hpos : ∀ (p : Nat) t, k ≤ p → T[p]? = some t → p = k ∧ t = t0 ∨ T.length - j ≤ p ∧ p ≠ k := fun p t hp ht => by
      by_cases e : p = k
      · subst e; rw [hk] at ht; cases ht; exact .inl ⟨rfl, rfl⟩
      · exact .inr ⟨by omega, e⟩
    unfold coreStep
    by_cases h1 : mgetD s.1 (av t0) 0 = 0 ∨ ix level (av t0) = 0
    · rw [if_pos h1]
      refine ⟨i1, i2, fun p t hp ht hs hl => ?_⟩
      rcases hpos p t hp ht with ⟨rfl, rfl⟩ | ⟨h, _⟩
      · exfalso
        rcases h1 with h | h
        · exact hs h
        · rw [hlv] at h; exact hl h
      · exact i3 p t h ht hs hl
    · rw [if_neg h1]
      rw [not_or] at h1
      by_cases h2 : ix reason (av t0) < 0
      · rw [if_pos h2]
        refine ⟨i1, fun y hy => List.mem_append_left _ (i2 y hy), fun p t hp ht hs hl => ?_⟩
        rcases hpos p t hp ht with ⟨rfl, rfl⟩ | ⟨h, _⟩
        · exact ⟨fun _ => by simp, fun h => absurd h2 h⟩
        · obtain ⟨g1, g2⟩ := i3 p t h ht hs hl
          exact ⟨fun h => List.mem_append_left _ (g1 h), g2⟩
      · rw [if_neg h2]
        rcases hS.ti.rsn k t0 hk with ⟨g, _⟩ | ⟨_, g0, D, hD, hx⟩
        · omega
        have hgetD : (clsOf A cs).getD (ix reason (av t0)).toNat [] = t0 :: D := by rw [List.getD_eq_getElem?_getD, hD]; rfl
        have hmono : ∀ v, mgetD s.1 v 0 ≠ 0 → mgetD (markF ((clsOf A cs).getD (ix reason (av t0)).toNat []) s.1) v 0 ≠ 0 := fun v hv => by
          rw [markF_get]; split
          · omega
          · exact hv
        have hsame : ∀ (p : Nat) t, T.length - j ≤ p → T[p]? = some t → mgetD (markF ((clsOf A cs).getD (ix reason (av t0)).toNat []) s.1) (av t) 0 ≠ 0 → mgetD s.1 (av t) 0 ≠ 0 := fun p t hp ht hs => by
          rw [markF_get, hgetD] at hs
          split at hs
          · rename_i hex
            exfalso
            obtain ⟨y, hy, hav⟩ := hex
            rcases List.mem_cons.1 hy with rfl | hy
            · have := hS.ti.inj (List.mem_of_getElem? hk) (List.mem_of_getElem? ht) hav
              rw [this] at hk
              have := hS.ti.pos hk ht
              omega
            · obtain ⟨q, hq, hTq⟩ := mem_take_pos (hx y hy)
              have := hS.ti.inj (List.mem_of_getElem? hTq) (List.mem_of_getElem? ht) (by rw [av_neg]; exact hav)
              rw [this] at hTq
              have := hS.ti.pos hTq ht
              omega
          · exact hs
        refine ⟨fun v hv => hmono v (i1 v hv), i2, fun p t hp ht hs hl => ?_⟩
        rcases hpos p t hp ht with ⟨rfl, rfl⟩ | ⟨h, _⟩
        · refine ⟨fun h => absurd h h2, fun _ C hC y hy => ?_⟩
          rw [hD] at hC; cases hC
          rw [markF_get, hgetD, if_pos ⟨y, hy, rfl⟩]; omega
        · obtain ⟨g1, g2⟩ := i3 p t h ht (hsame p t h ht hs) hl
          exact ⟨g1, fun h C hC y hy => hmono _ (g2 h C hC y hy)⟩
theorem core_ok (hS : SI n cs watch value level reason T starts head A own) (hRI : RI L (clsOf A cs)) {suppose : List Int} (hsl : litsOk n suppose = true) (hlen : suppose.length ≤ 1048576) (hdec : ∀ (p : Nat) t, T[p]? = some t → (p : Int) ∈ starts → t ∈ suppose)
    {x : Int} (hx : x ∈ suppose) (hxT : -x ∈ T) {Q : List Int → Prop} (hq : ∀ core, core.Nodup → core.Sublist suppose → RUP n (L ++ core.map fun y => [y]) [] → Q core) : V_core n cs watch value level reason T starts head heat proof dead A x suppose Q := by
  have ht := hS.ti
  have hn := ht.hn
  have hTn := ht.len
  have hxl := mem_lits hsl hx
  refine ⟨(ht.i64 hxl).1, fun pre s => s = pre.foldl (coreStep level reason (clsOf A cs)) (mset [] (av x) 1, [x]) ∧ s.2.length ≤ pre.length + 1, ⟨rfl, by simp⟩, ?_, ?_⟩
  · rintro pre t ⟨seen, out⟩ htT hpl ⟨hs, hol⟩
    dsimp only at hol ⊢
    have htl := ht.lits t htT
    have ht64 := ht.i64 htl
    have hmax : max t (-t) = av t := rfl
    rw [hmax] at ht64 ⊢
    have hstep : ∀ s', s' = coreStep level reason (clsOf A cs) (seen, out) t → s' = (pre ++ [t]).foldl (coreStep level reason (clsOf A cs)) (mset [] (av x) 1, [x]) := fun s' h => by
      rw [List.foldl_append, ← hs, h]; rfl
    refine ⟨ht64.1, fun b => (b = true → mgetD seen (av t) 0 = 0 ∨ ix level (av t) = 0) ∧ (b = false → ¬ (mgetD seen (av t) 0 = 0 ∨ ix level (av t) = 0)), ?_, fun _ => ⟨fun h => ⟨fun _ => .inl h, fun e => (by cases e)⟩, fun h => ⟨ht64.2.2.1, fun _ => ⟨fun e => .inr (of_decide_eq_true e), fun e => by rintro (h' | h'); exact h h'; exact (of_decide_eq_false e) h'⟩⟩⟩⟩
    rintro b ⟨hb1, hb2⟩
    refine ⟨fun e => ⟨hstep _ (by unfold coreStep; rw [if_pos (hb1 e)]), by simp; omega⟩, fun e => ⟨ht64.2.2.2, fun _ => ⟨fun hneg => ⟨?_, hstep _ (by unfold coreStep; rw [if_neg (hb2 e), if_pos hneg]), by simp; omega⟩, fun hge => ⟨ht64.2.2.2, fun _ => ?_⟩⟩⟩⟩
    · rw [List.length_singleton]
      exact ⟨by omega, by unfold maxLen; omega⟩
    · obtain ⟨p, hp⟩ := List.getElem?_of_mem htT
      rcases ht.rsn p t hp with ⟨g, _⟩ | ⟨_, g0, D, hD, _⟩
      · omega
      have hlt := (List.getElem?_eq_some_iff.1 hD).1
      rw [clsOf_length] at hlt
      have hlies := hS.mo (.cl (ix reason (av t)).toNat)
      simp only [FF] at hlies
      have hCe : t :: D = aread A (cs.getD (ix reason (av t)).toNat rnil) := by rw [clsOf_get hlt] at hD; exact (Option.some.inj hD).symm
      have hcw := hS.cw _ (List.mem_of_getElem? hD)
      have hcl := hlies.length
      rw [← hCe] at hcl
      rw [ix_cs]
      have hgetD : (clsOf A cs).getD (ix reason (av t)).toNat [] = t :: D := by rw [List.getD_eq_getElem?_getD, hD]; rfl
      generalize cs.getD (ix reason (av t)).toNat rnil = c at *
      refine ⟨⟨g0, by omega⟩, by unfold I64; have := hcw.2.2.2; omega, fun s => 0 ≤ s.2 ∧ s.2 ≤ (c.n : Int) ∧ s.1 = markF ((t :: D).take s.2.toNat) seen, fun s => ((c.n : Int) - s.2).toNat, ⟨by simp, by simp, by simp [markF]⟩, ?_⟩
      rintro ⟨m, k⟩ ⟨k0, k1, hm⟩
      dsimp only at k0 k1 hm ⊢
      subst hm
      refine ⟨fun hk => ?_, fun hk => ?_⟩
      · obtain ⟨a1, a2, a3⟩ := hlies.rd (i := k) k0 hk
        rw [← hCe] at a3
        rw [a3]
        have hl2 := mem_lits hcw.2.2.1 (ix_mem (xs := t :: D) k0 (by omega))
        refine ⟨a1, a2, (ht.i64 hl2).1, by unfold I64; have := hcw.2.2.2; omega, ⟨by omega, by omega, ?_⟩, by first | omega | (dsimp only; omega)⟩
        try dsimp only
        rw [take_ix (xs := t :: D) k0 (by omega)]
        unfold markF
        rw [List.foldl_append]; rfl
      · refine ⟨hstep _ ?_, by simp; omega⟩
        unfold coreStep
        rw [if_neg (hb2 e), if_neg hge, hgetD, List.take_of_length_le (by omega)]
  · rintro ⟨seen, out⟩ ⟨hs, _⟩
    dsimp only
    intro _
    refine ⟨fun s => 0 ≤ s.2 ∧ s.2 ≤ suppose.length ∧ s.1 = coreSel out (suppose.take s.2.toNat), fun s => ((suppose.length : Int) - s.2).toNat, ⟨by simp, by simp, by simp [coreSel]⟩, ?_⟩
    rintro ⟨core, k⟩ ⟨k0, k1, hm⟩
    dsimp only at k0 k1 hm ⊢
    subst hm
    refine ⟨fun hk => ?_, fun hk => ?_⟩
    · have hsp := coreSel_spec out (suppose.take k.toNat)
      have hcl := hsp.2.1.length_le
      rw [List.length_take] at hcl
      refine ⟨fun c => c = coreSel out (suppose.take (k + 1).toNat), ?_, ⟨k0, hk⟩, fun _ => ?_⟩
      · rintro _ rfl
        exact ⟨by unfold I64; omega, ⟨by omega, by omega, rfl⟩, by first | omega | (dsimp only; omega)⟩
      rw [take_ix k0 hk, coreSel_snoc]
      refine ⟨fun b => b = decide (ix suppose k ∈ out ∧ ix suppose k ∉ coreSel out (suppose.take k.toNat)), ?_, ContainsI_ok ⟨fun h1 => ContainsI_ok ?_, fun h1 => ?_⟩⟩
      · rintro _ rfl
        refine ⟨fun e => ⟨⟨by rw [List.length_singleton]; omega, by rw [List.length_singleton]; unfold maxLen; omega⟩, by rw [if_pos (of_decide_eq_true e)]⟩, fun e => by rw [if_neg (of_decide_eq_false e)]⟩
      · have h1 := of_decide_eq_true h1
        by_cases h2 : ix suppose k ∈ coreSel out (suppose.take k.toNat) <;> simp [h1, h2]
      · have h1 := of_decide_eq_false h1
        simp [h1]
    · rw [List.take_of_length_le (by omega)]
      obtain ⟨c1, c2, c3⟩ := coreSel_spec out suppose
      refine hq _ c1 c2 fun S hSc _ => ?_
      have hinv := core_inv hS (mset [] (av x) 1, [x]) T.length (Nat.le_refl _)
      simp only [Nat.sub_self, List.drop_zero] at hinv
      rw [← hs] at hinv
      obtain ⟨i1, i2, i3⟩ := hinv
      dsimp only at i1 i2 i3
      have hScL : Clo n L S := hSc.sub fun g hg => List.mem_append_left _ hg
      have hunit : ∀ y ∈ coreSel out suppose, S y := fun y hy => hSc.unit (g := [y]) (C := [y]) (List.mem_append_right _ (List.mem_map.2 ⟨y, hy, rfl⟩)) (fun z => Iff.rfl) (by have := mem_lits hsl ((c3 y).1 hy).1; simp [litsOk, this]) fun z hz hne => absurd (List.mem_singleton.1 hz) hne
      have hall : ∀ (k p : Nat) t, p < k → T[p]? = some t → mgetD seen (av t) 0 ≠ 0 → S t := by
        intro k
        induction k with
        | zero => intro p t h; omega
        | succ k ih =>
          intro p t hp hpt hseen
          by_cases hl : lev starts p = 0
          · exact level0 ht hS.cw hRI hScL (p + 1) p t (by omega) hpt hl
          · obtain ⟨g1, g2⟩ := i3 p t (Nat.zero_le _) hpt hseen hl
            rcases ht.rsn p t hpt with ⟨h1, h2⟩ | ⟨_, h1, D, hD, hDx⟩
            · exact hunit t ((c3 t).2 ⟨hdec p t hpt h2, g1 (by omega)⟩)
            · obtain ⟨g, hg, hgx⟩ := hRI _ (List.mem_of_getElem? hD)
              refine hScL.unit hg hgx (hS.cw _ (List.mem_of_getElem? hD)).2.2.1 fun y hy hne => ?_
              rcases List.mem_cons.1 hy with rfl | hyD
              · exact absurd rfl hne
              · obtain ⟨q, hq1, hq2⟩ := mem_take_pos (hDx y hyD)
                exact ih q (-y) (by omega) hq2 (by rw [av_neg]; exact g2 (by omega) _ hD y hy)
      obtain ⟨p, hp⟩ := List.getElem?_of_mem hxT
      have hs1 : S (-x) := hall (p + 1) p (-x) (by omega) hp (by rw [av_neg]; exact i1 _ (by rw [mgetD_mset, if_pos rfl]; omega))
      have hs2 : S x := hunit x ((c3 x).2 ⟨hx, i2 x (by simp)⟩)
      exact hSc.1 x hxl hs2 hs1
end
end Go.Vc
