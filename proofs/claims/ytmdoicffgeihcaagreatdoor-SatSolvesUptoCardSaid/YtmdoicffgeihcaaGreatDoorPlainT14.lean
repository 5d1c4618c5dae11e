/- The search as a whole: what it keeps, and that it ends. No program in sight. -/
import Derived.Test.YtmdoicffgeihcaaGreatDoorPlainT13
set_option linter.unusedVariables false
namespace Go.Vc
/-- What a place of the trail counts: nothing where it was tried, else all that lies behind it. -/
def wgt (N : Nat) (starts : List Int) (p : Nat) : Nat := if (p : Int) ∈ starts then 0 else 2 ^ (N - 1 - p)
def bw (N : Nat) (starts : List Int) : Nat → Nat
  | 0 => 0
  | k + 1 => bw N starts k + wgt N starts k
theorem bw_mono {N : Nat} {starts : List Int} {j : Nat} : ∀ {k : Nat}, j ≤ k → bw N starts j ≤ bw N starts k
  | 0, h => by rw [show j = 0 by omega]; exact Nat.le_refl _
  | k + 1, h => by
    by_cases e : j = k + 1
    · subst e; exact Nat.le_refl _
    · exact Nat.le_trans (bw_mono (k := k) (by omega)) (Nat.le_add_right _ _)
theorem bw_congr {N : Nat} {s s' : List Int} : ∀ {k : Nat}, (∀ p : Nat, p < k → ((p : Int) ∈ s ↔ (p : Int) ∈ s')) → bw N s k = bw N s' k
  | 0, _ => rfl
  | k + 1, h => by
    have h1 := h k (by omega)
    show bw N s k + wgt N s k = bw N s' k + wgt N s' k
    rw [bw_congr fun p hp => h p (by omega)]
    unfold wgt
    by_cases h2 : (k : Int) ∈ s
    · rw [if_pos h2, if_pos (h1.1 h2)]
    · rw [if_neg h2, if_neg fun h3 => h2 (h1.2 h3)]
theorem wgt_le {N : Nat} {starts : List Int} {p : Nat} : wgt N starts p ≤ 2 ^ (N - 1 - p) := by
  unfold wgt; split
  · exact Nat.zero_le _
  · exact Nat.le_refl _
theorem bw_tail {N : Nat} {starts : List Int} {j : Nat} : ∀ {k : Nat}, j ≤ k → k ≤ N → bw N starts k + 2 ^ (N - k) ≤ bw N starts j + 2 ^ (N - j)
  | 0, h, _ => by rw [show j = 0 by omega]; exact Nat.le_refl _
  | k + 1, h, hN => by
    by_cases e : j = k + 1
    · subst e; exact Nat.le_refl _
    · have ih := bw_tail (N := N) (starts := starts) (j := j) (k := k) (by omega) (by omega)
      have h1 := wgt_le (N := N) (starts := starts) (p := k)
      have h2 : 2 ^ (N - k) = 2 ^ (N - (k + 1)) * 2 := by rw [← Nat.pow_succ, show (N - (k + 1)).succ = N - k by omega]
      rw [show N - 1 - k = N - (k + 1) by omega] at h1
      show bw N starts k + wgt N starts k + 2 ^ (N - (k + 1)) ≤ _
      omega
theorem mu_lt {P a b N t u : Nat} (hab : a ≤ b) (hb : b ≤ P) (h : a < b ∨ t < u) (ht : t ≤ N) (hu : u ≤ N) : (P - b) * (N + 2) + (N + 1 - u) < (P - a) * (N + 2) + (N + 1 - t) := by
  rcases Nat.lt_or_ge a b with h1 | h1
  · have : (P - b + 1) * (N + 2) ≤ (P - a) * (N + 2) := Nat.mul_le_mul_right _ (by omega)
    rw [Nat.add_mul] at this
    omega
  · have e : a = b := by omega
    subst e
    rcases h with h | h <;> omega
theorem asc_take {starts : List Int} (h : starts.Pairwise (· < ·)) {k : Nat} {s : Int} (hk : starts[k]? = some s) (x : Int) : x ∈ starts.take k ↔ x ∈ starts ∧ x < s := by
  obtain ⟨b1, b2⟩ := List.getElem?_eq_some_iff.1 hk
  constructor
  · intro hx
    obtain ⟨j, hj, hjx⟩ := mem_take_pos hx
    obtain ⟨a1, a2⟩ := List.getElem?_eq_some_iff.1 hjx
    have := (List.pairwise_iff_getElem.1 h) j k a1 b1 hj
    exact ⟨List.mem_of_getElem? hjx, by omega⟩
  · rintro ⟨hx, hlt⟩
    obtain ⟨j, hjx⟩ := List.getElem?_of_mem hx
    obtain ⟨a1, a2⟩ := List.getElem?_eq_some_iff.1 hjx
    rcases Nat.lt_or_ge j k with h1 | h1
    · exact mem_take_lt hjx h1
    · exfalso
      by_cases e : j = k
      · subst e; omega
      · have := (List.pairwise_iff_getElem.1 h) k j b1 a1 (by omega)
        omega
structure RB (n : Int) (F : List (List Int)) (S : List Int) (Cl : List (List Int)) (T starts : List Int) (heat : List Unit) (proof : List (Bool × List Int)) (lines : List (List Int)) : Prop where
  hh : (heat.length : Int) = n + 1
  pr : proof = lines.map fun c => (false, c)
  ri : RI (F ++ lines) Cl
  cv : CV F Cl
  gd : ∀ c ∈ lines, litsOk n c = true ∧ c.length ≤ 24
  ru : ∀ (k : Nat) c, lines[k]? = some c → RUP n (F ++ lines.take k) c
  dc : ∀ (p : Nat) t, T[p]? = some t → (p : Int) ∈ starts → t ∈ S ∨ ∀ x ∈ S, x ∈ T.take p
  cn : lines.length ≤ bw n.toNat starts T.length
  cl : Cl.length ≤ 33554432 + lines.length
section
variable {n : Int} {F : List (List Int)} {S : List Int} {Cl : List (List Int)} {T starts : List Int} {heat : List Unit} {proof : List (Bool × List Int)} {lines : List (List Int)}
variable {cs : List Raw} {watch : List (Int × Raw)} {value level reason : List Int} {head : Int} {dead : Bool} {A : Arena} {own : Own}
theorem RB.follow (h : RB n F S Cl T starts heat proof lines) {Cl' : List (List Int)} {T' ext : List Int} (hc : CP Cl Cl') (hT : T' = T ++ ext) (hs : ∀ s ∈ starts, s < T.length) : RB n F S Cl' T' starts heat proof lines := by
  subst hT
  refine ⟨h.hh, h.pr, h.ri.cp hc, h.cv.cp hc, h.gd, h.ru, fun p t hp hps => ?_, Nat.le_trans h.cn (bw_mono (by simp)), by rw [hc.1]; exact h.cl⟩
  have hlt := hs _ hps
  rw [List.getElem?_append_left (by omega)] at hp
  rw [List.take_append_of_le_length (by omega)]
  exact h.dc p t hp hps
theorem bw_top (hn : 0 ≤ n ∧ n ≤ 24) (hT : (T.length : Int) ≤ n) : bw n.toNat starts T.length < 2 ^ n.toNat ∧ 2 ^ n.toNat ≤ 16777216 := by
  have h1 := bw_tail (N := n.toNat) (starts := starts) (j := 0) (k := T.length) (by omega) (by omega)
  have h2 : 2 ^ n.toNat ≤ 2 ^ 24 := Nat.pow_le_pow_right (by omega) (by omega)
  have h3 : 0 < 2 ^ (n.toNat - T.length) := Nat.pow_pos (by omega)
  have h4 : bw n.toNat starts 0 = 0 := rfl
  have h5 : (2 : Nat) ^ 24 = 16777216 := by decide
  rw [h4, Nat.sub_zero] at h1
  omega
theorem RB.tried (h : RB n F S Cl T starts heat proof lines) {d : Int} (hd : d ∈ S ∨ ∀ x ∈ S, x ∈ T) (hs : ∀ s ∈ starts, s < T.length) :
    RB n F S Cl (T ++ [d]) (starts ++ [(T.length : Int)]) heat proof lines ∧ bw n.toNat (starts ++ [(T.length : Int)]) (T ++ [d]).length = bw n.toNat starts T.length := by
  have hb : bw n.toNat (starts ++ [(T.length : Int)]) (T ++ [d]).length = bw n.toNat starts T.length := by
    rw [List.length_append, List.length_singleton]
    show bw _ _ T.length + wgt _ _ T.length = _
    rw [bw_congr (s' := starts) fun p hp => by simp; omega]
    unfold wgt
    rw [if_pos (by simp)]; rfl
  refine ⟨⟨h.hh, h.pr, h.ri, h.cv, h.gd, h.ru, fun p t hp hps => ?_, by rw [hb]; exact h.cn, h.cl⟩, hb⟩
  rcases List.mem_append.1 hps with hps | hps
  · have hlt := hs _ hps
    rw [List.getElem?_append_left (by omega)] at hp
    rw [List.take_append_of_le_length (by omega)]
    exact h.dc p t hp hps
  · have e : p = T.length := by have := List.mem_singleton.1 hps; omega
    subst e
    simp at hp; subst hp
    rw [List.take_append_of_le_length (Nat.le_refl _), List.take_length]; exact hd
theorem RB.learn (h : RB n F S Cl T starts heat proof lines) (hasc : starts.Pairwise (· < ·)) {k : Nat} {s : Int} (hk : starts[k]? = some s) (hsb : 0 ≤ s ∧ s < T.length) (hTn : (T.length : Int) ≤ n) {C1 : List Int} {l : Int} {heat' : List Unit} (hh : heat'.length = heat.length)
    (hlits : litsOk n C1 = true) (hl24 : C1.length ≤ 24) (hrup : RUP n (F ++ lines) C1) :
    RB n F S (Cl ++ [C1]) (T.take s.toNat ++ [l]) (starts.take k) heat' ((lines ++ [C1]).map fun c => (false, c)) (lines ++ [C1]) ∧ bw n.toNat starts T.length < bw n.toNat (starts.take k) (T.take s.toNat ++ [l]).length := by
  have hlen : (T.take s.toNat).length = s.toNat := by rw [List.length_take]; omega
  have hb : bw n.toNat starts T.length < bw n.toNat (starts.take k) (T.take s.toNat ++ [l]).length := by
    rw [List.length_append, List.length_singleton, hlen]
    show _ < bw _ _ s.toNat + wgt _ _ s.toNat
    have h0 : bw n.toNat (starts.take k) s.toNat = bw n.toNat starts s.toNat := bw_congr fun p hp => by rw [asc_take hasc hk]; exact ⟨fun h => h.1, fun h => ⟨h, by omega⟩⟩
    rw [h0]
    have hw : wgt n.toNat (starts.take k) s.toNat = 2 ^ (n.toNat - 1 - s.toNat) := by
      unfold wgt; rw [if_neg]; rw [asc_take hasc hk]; rintro ⟨_, h2⟩; omega
    have h1 := bw_tail (N := n.toNat) (starts := starts) (j := s.toNat + 1) (k := T.length) (by omega) (by omega)
    have h2 : bw n.toNat starts (s.toNat + 1) = bw n.toNat starts s.toNat := by
      show _ + wgt _ _ _ = _
      unfold wgt; rw [if_pos (by rw [Int.toNat_of_nonneg hsb.1]; exact List.mem_of_getElem? hk)]; rfl
    have h3 : 0 < 2 ^ (n.toNat - T.length) := Nat.pow_pos (by omega)
    rw [h2, show n.toNat - (s.toNat + 1) = n.toNat - 1 - s.toNat by omega] at h1
    rw [hw]; omega
  refine ⟨⟨by rw [hh]; exact h.hh, rfl, fun C hC => ?_, fun f hf => ?_, fun c hc => ?_, fun j c hj => ?_, fun p t hp hps => ?_, ?_, ?_⟩, hb⟩
  · rcases List.mem_append.1 hC with hC | hC
    · obtain ⟨g, hg, hgx⟩ := h.ri C hC
      exact ⟨g, by rw [← List.append_assoc]; exact List.mem_append_left _ hg, hgx⟩
    · rw [List.mem_singleton.1 hC]; exact ⟨C1, by simp, fun x => Iff.rfl⟩
  · rcases h.cv f hf with g | ⟨C, hC, hx⟩
    · exact .inl g
    · exact .inr ⟨C, List.mem_append_left _ hC, hx⟩
  · rcases List.mem_append.1 hc with hc | hc
    · exact h.gd c hc
    · rw [List.mem_singleton.1 hc]; exact ⟨hlits, hl24⟩
  · rcases Nat.lt_or_ge j lines.length with h1 | h1
    · rw [List.getElem?_append_left h1] at hj
      rw [List.take_append_of_le_length (by omega)]
      exact h.ru j c hj
    · have h2 := (List.getElem?_eq_some_iff.1 hj).1
      rw [List.length_append, List.length_singleton] at h2
      have e : j = lines.length := by omega
      subst e
      simp at hj; subst hj
      rw [List.take_append_of_le_length (Nat.le_refl _), List.take_length]; exact hrup
  · obtain ⟨h1, h2⟩ := (asc_take hasc hk _).1 hps
    rw [List.getElem?_append_left (by omega), List.getElem?_take_of_lt (by omega)] at hp
    rw [List.take_append_of_le_length (by omega), List.take_take, show min p s.toNat = p by omega]
    exact h.dc p t hp h1
  · rw [List.length_append, List.length_singleton]; have := h.cn; omega
  · rw [List.length_append, List.length_append]; have := h.cl; simp; omega
theorem SI.back (h : SI n cs watch value level reason T starts head A own) {k : Nat} {s : Int} (hk : starts[k]? = some s) {value' : List Int} (hv : Vals n value') (hval : ∀ l, isLit n l = true → valOf value' l = tv (T.take s.toNat) l) : SI n cs watch value' level reason (T.take s.toNat) (starts.take k) ((T.take s.toNat).length : Int) A own :=
  ⟨h.ti.cut hk hv hval, h.cw, h.mo, h.ws, ⟨by omega, Int.le_refl _⟩, fun x hx => by
    have h1 := ((asc_take h.ti.asc hk x).1 hx).2
    have h2 := h.ti.sb s (List.mem_of_getElem? hk)
    rw [List.length_take]; omega, h.big⟩
theorem QL.back (h : TI n value level reason T starts Cl) (hq : QL Cl T starts) {k : Nat} {s : Int} (hk : starts[k]? = some s) (hd : Nat) : QF Cl (T.take s.toNat) (starts.take k) hd := fun i C a q hC ha hqa _ => by
  have hsb := h.sb s (List.mem_of_getElem? hk)
  have hkl := (List.getElem?_eq_some_iff.1 hk).1
  have hlt := (List.getElem?_eq_some_iff.1 hqa).1
  rw [List.length_take] at hlt
  rw [List.getElem?_take_of_lt (by omega)] at hqa
  have hlq := (lev_at h.asc hk (p := q)).1 (by omega)
  obtain ⟨b, hb, p, hp, hle⟩ := hq i C a q hC ha hqa (by omega)
  have hps := (lev_at h.asc hk (p := p)).2 (by omega)
  exact .inr ⟨b, hb, p, by rw [List.getElem?_take_of_lt (by omega)]; exact hp, by rw [lev_take h.asc hk hps, lev_take h.asc hk (by omega)]; exact hle⟩
theorem SI.push (h : SI n cs watch value level reason T starts head A own) {l r : Int} {starts' : List Int} (hl : isLit n l = true) (h0 : tv T l = 0)
    (hr : (starts' = starts ∧ 0 ≤ r ∧ ∃ D, (clsOf A cs)[r.toNat]? = some (l :: D) ∧ ∀ x ∈ D, -x ∈ T) ∨ (starts' = starts ++ [(T.length : Int)] ∧ r = -1)) (hs : ∀ s ∈ starts', s ≤ head) :
    SI n cs watch (setv value l) (level.set (av l).toNat starts'.length) (reason.set (av l).toNat r) (T ++ [l]) starts' head A own :=
  ⟨h.ti.push hl h0 hr, h.cw, h.mo, h.ws, ⟨h.hd.1, by rw [List.length_append]; have := h.hd.2; omega⟩, hs, h.big⟩
end
end Go.Vc
