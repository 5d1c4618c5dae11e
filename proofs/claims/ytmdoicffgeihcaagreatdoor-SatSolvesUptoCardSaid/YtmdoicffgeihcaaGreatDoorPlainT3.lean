/- The search's trail: what is set, what is forgotten. No program in sight. -/
import Derived.Test.YtmdoicffgeihcaaGreatDoorPlainT2
set_option linter.unusedVariables false
namespace Go.Vc
/-- What a trail says of a literal. -/
def tv (T : List Int) (l : Int) : Int := if l ∈ T then 1 else if -l ∈ T then -1 else 0
/-- The level of a place. -/
def lev (starts : List Int) (p : Nat) : Int := ((starts.filter fun s => decide (s ≤ (p : Int))).length : Int)
structure TI (n : Int) (value level reason T starts : List Int) (Cl : List (List Int)) : Prop where
  hn : 0 ≤ n ∧ n ≤ 24
  vals : Vals n value
  ll : level.length = (n + 1).toNat
  rl : reason.length = (n + 1).toNat
  lits : ∀ t ∈ T, isLit n t = true
  nd : (T.map av).Nodup
  val : ∀ l, isLit n l = true → valOf value l = tv T l
  lvl : ∀ (p : Nat) t, T[p]? = some t → ix level (av t) = lev starts p
  rsn : ∀ (p : Nat) t, T[p]? = some t → (ix reason (av t) = -1 ∧ (p : Int) ∈ starts) ∨ ((p : Int) ∉ starts ∧ 0 ≤ ix reason (av t) ∧ ∃ D, Cl[(ix reason (av t)).toNat]? = some (t :: D) ∧ ∀ x ∈ D, -x ∈ T.take p)
  asc : starts.Pairwise (· < ·)
  sb : ∀ s ∈ starts, 0 ≤ s ∧ s < T.length
theorem inj_map {α β : Type} {f : α → β} : ∀ {l : List α}, (l.map f).Nodup → ∀ x ∈ l, ∀ y ∈ l, f x = f y → x = y
  | [], _, x, hx, _, _, _ => by cases hx
  | a :: l, h, x, hx, y, hy, e => by
    rw [List.map_cons, List.nodup_cons] at h
    rcases List.mem_cons.1 hx with h1 | h1
    · rcases List.mem_cons.1 hy with h2 | h2
      · rw [h1, h2]
      · exact absurd (by rw [← h1, e]; exact List.mem_map_of_mem h2) h.1
    · rcases List.mem_cons.1 hy with h2 | h2
      · exact absurd (by rw [← h2, ← e]; exact List.mem_map_of_mem h1) h.1
      · exact inj_map h.2 x h1 y h2 e
theorem nodup_of_map {α β : Type} {f : α → β} : ∀ {l : List α}, (l.map f).Nodup → l.Nodup
  | [], _ => List.nodup_nil
  | a :: l, h => by
    rw [List.map_cons, List.nodup_cons] at h
    exact List.nodup_cons.2 ⟨fun hx => h.1 (List.mem_map_of_mem hx), nodup_of_map h.2⟩
theorem nodup_bound : ∀ (k : Nat) (l : List Int), l.Nodup → (∀ x ∈ l, 1 ≤ x ∧ x ≤ (k : Int)) → l.length ≤ k
  | 0, l, _, h => by
    cases l with
    | nil => simp
    | cons a l => have := h a (by simp); omega
  | k + 1, l, hn, h => by
    have h1 := nodup_bound k (l.erase ((k : Int) + 1)) (hn.erase _) fun x hx => by
      have h2 := h x (List.mem_of_mem_erase hx)
      have h3 : x ≠ (k : Int) + 1 := fun e => by subst e; exact (List.Nodup.not_mem_erase hn) hx
      omega
    have h4 := List.length_erase (a := (k : Int) + 1) (l := l)
    split at h4 <;> omega
theorem nodup_pos {α : Type} {l : List α} (h : l.Nodup) {p q : Nat} {t : α} (hp : l[p]? = some t) (hq : l[q]? = some t) : p = q := by
  obtain ⟨h1, e1⟩ := List.getElem?_eq_some_iff.1 hp
  obtain ⟨h2, e2⟩ := List.getElem?_eq_some_iff.1 hq
  rcases Nat.lt_trichotomy p q with hlt | hlt | hlt
  · exact absurd (e1.trans e2.symm) (List.pairwise_iff_getElem.1 h p q h1 h2 hlt)
  · exact hlt
  · exact absurd (e2.trans e1.symm) (List.pairwise_iff_getElem.1 h q p h2 h1 hlt)
theorem av_neg (l : Int) : av (-l) = av l := by unfold av; omega
theorem av_eq {x y : Int} (h : av x = av y) : x = y ∨ x = -y := by unfold av at h; omega
theorem mem_take_lt {α : Type} {l : List α} {p q : Nat} {t : α} (h : l[q]? = some t) (hq : q < p) : t ∈ l.take p := by
  have : (l.take p)[q]? = some t := by rw [List.getElem?_take_of_lt hq]; exact h
  exact List.mem_of_getElem? this
theorem mem_take_pos {α : Type} {l : List α} {p : Nat} {t : α} (h : t ∈ l.take p) : ∃ q, q < p ∧ l[q]? = some t := by
  obtain ⟨q, hq⟩ := List.getElem?_of_mem h
  have hlt := (List.getElem?_eq_some_iff.1 hq).1
  rw [List.length_take] at hlt
  exact ⟨q, by omega, by rw [List.getElem?_take_of_lt (by omega)] at hq; exact hq⟩
theorem lev_nonneg (starts : List Int) (p : Nat) : 0 ≤ lev starts p := by unfold lev; omega
theorem lev_le (starts : List Int) (p : Nat) : lev starts p ≤ starts.length := by unfold lev; have := List.length_filter_le (fun s => decide (s ≤ (p : Int))) starts; omega
theorem lev_mono {starts : List Int} {p q : Nat} (h : p ≤ q) : lev starts p ≤ lev starts q := by
  unfold lev
  have : (starts.filter fun s => decide (s ≤ (p : Int))).length ≤ (starts.filter fun s => decide (s ≤ (q : Int))).length := by
    induction starts with
    | nil => simp
    | cons a l ih =>
      simp only [List.filter_cons]
      by_cases h1 : a ≤ (p : Int)
      · have h2 : a ≤ (q : Int) := by omega
        simp [h1, h2, ih]
      · by_cases h2 : a ≤ (q : Int)
        · simp [h1, h2]; omega
        · simp [h1, h2, ih]
  omega
theorem lev_full {starts : List Int} {p : Nat} (h : ∀ s ∈ starts, s ≤ (p : Int)) : lev starts p = starts.length := by
  unfold lev; rw [List.filter_eq_self.2 (fun s hs => by simpa using h s hs)]
theorem lev_snoc_lt {starts : List Int} {p : Nat} {s : Int} (h : (p : Int) < s) : lev (starts ++ [s]) p = lev starts p := by
  unfold lev; rw [List.filter_append]; simp [show ¬ s ≤ (p : Int) by omega]
/-- Levels against starts that ascend. -/
theorem lev_at {starts : List Int} (h : starts.Pairwise (· < ·)) {k p : Nat} {s : Int} (hk : starts[k]? = some s) : (p : Int) < s ↔ lev starts p ≤ k := by
  induction starts generalizing k with
  | nil => cases hk
  | cons a l ih =>
    rw [List.pairwise_cons] at h
    unfold lev at *
    cases k with
    | zero =>
      simp at hk; subst hk
      rw [List.filter_cons]
      by_cases h1 : a ≤ (p : Int)
      · simp [h1]; omega
      · have : l.filter (fun s => decide (s ≤ (p : Int))) = [] := List.filter_eq_nil_iff.2 fun x hx => by have := h.1 x hx; simp; omega
        simp [h1, this]; omega
    | succ k =>
      simp only [List.getElem?_cons_succ] at hk
      have h2 := ih h.2 hk
      have h3 := h.1 s (List.mem_of_getElem? hk)
      rw [List.filter_cons]
      by_cases h1 : a ≤ (p : Int)
      · simp only [h1, decide_true, if_true, List.length_cons]; rw [h2]; omega
      · have : l.filter (fun s => decide (s ≤ (p : Int))) = [] := List.filter_eq_nil_iff.2 fun x hx => by have := h.1 x hx; simp; omega
        simp [h1, this]; omega
theorem lev_take {starts : List Int} (h : starts.Pairwise (· < ·)) {k p : Nat} {s : Int} (hk : starts[k]? = some s) (hp : (p : Int) < s) : lev (starts.take k) p = lev starts p := by
  have hlt := (List.getElem?_eq_some_iff.1 hk).1
  have e : starts = starts.take k ++ starts.drop k := (List.take_append_drop _ _).symm
  have hd : (starts.drop k).filter (fun s => decide (s ≤ (p : Int))) = [] := List.filter_eq_nil_iff.2 fun x hx => by
    obtain ⟨j, hj⟩ := List.getElem?_of_mem hx
    rw [List.getElem?_drop] at hj
    have : s ≤ x := by
      by_cases h0 : j = 0
      · subst h0; rw [Nat.add_zero, hk] at hj; cases hj; exact Int.le_refl _
      · obtain ⟨g1, g2⟩ := List.getElem?_eq_some_iff.1 hj
        obtain ⟨g3, g4⟩ := List.getElem?_eq_some_iff.1 hk
        have := List.pairwise_iff_getElem.1 h k (k + j) g3 g1 (by omega)
        rw [g2, g4] at this; omega
    simp; omega
  unfold lev
  conv => rhs; rw [e]
  rw [List.filter_append, hd, List.append_nil]
section ti
variable {n : Int} {value level reason T starts : List Int} {Cl : List (List Int)}
theorem TI.okn (h : TI n value level reason T starts Cl) : okN n := ⟨h.hn.1, by have := h.hn.2; omega⟩
theorem TI.inj (h : TI n value level reason T starts Cl) {x y : Int} (hx : x ∈ T) (hy : y ∈ T) (e : av x = av y) : x = y := inj_map h.nd x hx y hy e
theorem TI.cons (h : TI n value level reason T starts Cl) {x : Int} (hx : x ∈ T) : -x ∉ T := fun hy => by
  have := h.inj hx hy (av_neg x).symm
  have h2 := h.lits x hx
  rw [isLit_iff] at h2; omega
theorem TI.pos (h : TI n value level reason T starts Cl) {p q : Nat} {t : Int} (hp : T[p]? = some t) (hq : T[q]? = some t) : p = q := nodup_pos (nodup_of_map h.nd) hp hq
theorem TI.len (h : TI n value level reason T starts Cl) : (T.length : Int) ≤ n := by
  have h1 := nodup_bound n.toNat (T.map av) h.nd fun x hx => by
    obtain ⟨t, ht, rfl⟩ := List.mem_map.1 hx
    have := lit_av h.okn (h.lits t ht); have := h.hn.1; omega
  rw [List.length_map] at h1; have := h.hn.1; omega
theorem tv_mem {l : Int} (h : l ∈ T) : tv T l = 1 := by simp [tv, h]
theorem TI.tv_neg (h : TI n value level reason T starts Cl) {l : Int} (hl : -l ∈ T) : tv T l = -1 := by
  have : l ∉ T := fun hx => h.cons hx hl
  simp [tv, this, hl]
theorem tv_zero {l : Int} : tv T l = 0 ↔ l ∉ T ∧ -l ∉ T := by
  unfold tv
  split
  · simp_all
  · split <;> simp_all
theorem tv_pos {l : Int} : 0 < tv T l ↔ l ∈ T := by
  unfold tv
  split
  · simp_all
  · split <;> simp_all
theorem tv_lt {l : Int} (h : tv T l < 0) : -l ∈ T := by
  unfold tv at h
  split at h
  · omega
  · split at h
    · assumption
    · omega
theorem tv_cases (T : List Int) (l : Int) : (tv T l = 1 ∧ l ∈ T) ∨ (tv T l = -1 ∧ -l ∈ T ∧ l ∉ T) ∨ (tv T l = 0 ∧ l ∉ T ∧ -l ∉ T) := by
  unfold tv
  split
  · simp_all
  · split <;> simp_all
theorem TI.slen (h : TI n value level reason T starts Cl) : starts.length ≤ T.length := by
  have h1 : (starts.map (· + 1)).Nodup := by
    refine List.Pairwise.map _ (fun a b hab => ?_) h.asc
    intro e; omega
  have := nodup_bound T.length (starts.map (· + 1)) h1 fun x hx => by
    obtain ⟨s, hs, rfl⟩ := List.mem_map.1 hx
    have := h.sb s hs; omega
  simpa using this
theorem TI.push (h : TI n value level reason T starts Cl) {l r : Int} {starts' : List Int} (hl : isLit n l = true) (h0 : tv T l = 0)
    (hr : (starts' = starts ∧ 0 ≤ r ∧ ∃ D, Cl[r.toNat]? = some (l :: D) ∧ ∀ x ∈ D, -x ∈ T) ∨ (starts' = starts ++ [(T.length : Int)] ∧ r = -1)) :
    TI n (setv value l) (level.set (av l).toNat starts'.length) (reason.set (av l).toNat r) (T ++ [l]) starts' Cl := by
  obtain ⟨z1, z2⟩ := tv_zero.1 h0
  have hla := lit_av h.okn hl
  have hne : ∀ t ∈ T, av t ≠ av l := fun t ht e => by
    rcases av_eq e with e | e
    · exact z1 (e ▸ ht)
    · exact z2 (e ▸ ht)
  have hsb : ∀ s ∈ starts, 0 ≤ s ∧ s < T.length := h.sb
  have hpos : ∀ (p : Nat) (t : Int), (T ++ [l])[p]? = some t → (p < T.length ∧ T[p]? = some t) ∨ (p = T.length ∧ t = l) := fun p t hp => by
    rcases Nat.lt_or_ge p T.length with hlt | hge
    · rw [List.getElem?_append_left hlt] at hp; exact .inl ⟨hlt, hp⟩
    · have := (List.getElem?_eq_some_iff.1 hp).1
      rw [List.length_append, List.length_singleton] at this
      have e : p = T.length := by omega
      subst e
      rw [List.getElem?_append_right (Nat.le_refl _), Nat.sub_self] at hp
      simp at hp; exact .inr ⟨rfl, hp.symm⟩
  have hset : ∀ (xs : List Int) (v t : Int), t ∈ T → ix (xs.set (av l).toNat v) (av t) = ix xs (av t) := fun xs v t ht => by
    have := hne t ht
    have h2 := lit_av h.okn (h.lits t ht)
    unfold ix
    rw [List.getD_eq_getElem?_getD, List.getD_eq_getElem?_getD, List.getElem?_set_ne (by omega)]
  have hsame : ∀ (xs : List Int) (v : Int), xs.length = (n + 1).toNat → ix (xs.set (av l).toNat v) (av l) = v := fun xs v hx => by
    unfold ix
    rw [List.getD_eq_getElem?_getD, List.getElem?_set_self (by rw [hx]; have := h.hn; omega)]; rfl
  have hlev : ∀ p : Nat, p < T.length → lev starts' p = lev starts p := fun p hp => by
    rcases hr with ⟨rfl, _⟩ | ⟨rfl, _⟩
    · rfl
    · exact lev_snoc_lt (by omega)
  have hlevT : lev starts' T.length = starts'.length := by
    refine lev_full fun s hs => ?_
    rcases hr with ⟨rfl, _⟩ | ⟨rfl, _⟩
    · have := hsb s hs; omega
    · rcases List.mem_append.1 hs with hs | hs
      · have := hsb s hs; omega
      · rw [List.mem_singleton.1 hs]; exact Int.le_refl _
  have hmem : ∀ p : Nat, p < T.length → ((p : Int) ∈ starts' ↔ (p : Int) ∈ starts) := fun p hp => by
    rcases hr with ⟨rfl, _⟩ | ⟨rfl, _⟩
    · exact Iff.rfl
    · rw [List.mem_append, List.mem_singleton]; exact ⟨fun h => h.elim id (fun e => by omega), .inl⟩
  refine ⟨h.hn, h.vals.set, by rw [List.length_set]; exact h.ll, by rw [List.length_set]; exact h.rl, fun t ht => ?_, ?_, fun x hx => ?_, fun p t hp => ?_, fun p t hp => ?_, ?_, fun s hs => ?_⟩
  · rcases List.mem_append.1 ht with ht | ht
    · exact h.lits t ht
    · rw [List.mem_singleton.1 ht]; exact hl
  · rw [List.map_append, List.nodup_append]
    refine ⟨h.nd, by simp, fun a ha b hb => ?_⟩
    obtain ⟨t, ht, rfl⟩ := List.mem_map.1 ha
    simp only [List.map_cons, List.map_nil, List.mem_singleton] at hb
    subst hb; exact hne t ht
  · rw [valOf_setv h.okn h.vals hl hx, h.val x hx]
    unfold tv
    simp only [List.mem_append, List.mem_singleton]
    by_cases e1 : x = l
    · simp [e1]
    · by_cases e2 : x = -l
      · subst e2
        have : ¬ (-l = l) := e1
        simp [z2, this]
      · have e3 : ¬ (-x = l) := fun e => e2 (by omega)
        simp [e1, e2, e3]
  · rcases hpos p t hp with ⟨hlt, hp⟩ | ⟨rfl, rfl⟩
    · rw [hset _ _ _ (List.mem_of_getElem? hp), h.lvl p t hp, hlev p hlt]
    · rw [hsame _ _ h.ll, hlevT]
  · rcases hpos p t hp with ⟨hlt, hp⟩ | ⟨rfl, rfl⟩
    · rw [hset _ _ _ (List.mem_of_getElem? hp)]
      rcases h.rsn p t hp with ⟨g1, g2⟩ | ⟨g1, g2, D, g3, g4⟩
      · exact .inl ⟨g1, (hmem p hlt).2 g2⟩
      · refine .inr ⟨fun hh => g1 ((hmem p hlt).1 hh), g2, D, g3, fun x hx => ?_⟩
        rw [List.take_append_of_le_length (by omega)]; exact g4 x hx
    · rw [hsame _ _ h.rl]
      rcases hr with ⟨rfl, g1, D, g2, g3⟩ | ⟨rfl, rfl⟩
      · refine .inr ⟨fun hh => by have := hsb _ hh; omega, g1, D, g2, fun x hx => ?_⟩
        rw [List.take_left]; exact g3 x hx
      · exact .inl ⟨rfl, by simp⟩
  · rcases hr with ⟨rfl, _⟩ | ⟨rfl, _⟩
    · exact h.asc
    · rw [List.pairwise_append]
      refine ⟨h.asc, by simp, fun a ha b hb => ?_⟩
      rw [List.mem_singleton.1 hb]; exact (hsb a ha).2
  · rw [List.length_append, List.length_singleton]
    rcases hr with ⟨rfl, _⟩ | ⟨rfl, _⟩
    · have := hsb s hs; omega
    · rcases List.mem_append.1 hs with hs | hs
      · have := hsb s hs; omega
      · rw [List.mem_singleton.1 hs]; omega
/-- The first of a trail, up to a decision. -/
theorem TI.cut (h : TI n value level reason T starts Cl) {k : Nat} {s : Int} (hk : starts[k]? = some s) {value' : List Int} (hv : Vals n value') (hval : ∀ l, isLit n l = true → valOf value' l = tv (T.take s.toNat) l) :
    TI n value' level reason (T.take s.toNat) (starts.take k) Cl := by
  have hsb := h.sb s (List.mem_of_getElem? hk)
  have hpos : ∀ (p : Nat) (t : Int), (T.take s.toNat)[p]? = some t → (p : Int) < s ∧ T[p]? = some t := fun p t hp => by
    have hlt := (List.getElem?_eq_some_iff.1 hp).1
    rw [List.length_take] at hlt
    rw [List.getElem?_take_of_lt (by omega)] at hp
    exact ⟨by omega, hp⟩
  have hkl := (List.getElem?_eq_some_iff.1 hk).1
  have htk : ∀ x ∈ starts.take k, x < s := fun x hx => by
    obtain ⟨j, hj, hx⟩ := mem_take_pos hx
    obtain ⟨g1, g2⟩ := List.getElem?_eq_some_iff.1 hx
    obtain ⟨g3, g4⟩ := List.getElem?_eq_some_iff.1 hk
    have := List.pairwise_iff_getElem.1 h.asc j k g1 g3 hj
    rw [g2, g4] at this; exact this
  have hdk : ∀ x ∈ starts, x < s → x ∈ starts.take k := fun x hx hlt => by
    obtain ⟨j, hj⟩ := List.getElem?_of_mem hx
    by_cases hjk : j < k
    · exact mem_take_lt hj hjk
    · exfalso
      by_cases e : j = k
      · subst e; rw [hk] at hj; cases hj; omega
      · obtain ⟨g1, g2⟩ := List.getElem?_eq_some_iff.1 hj
        obtain ⟨g3, g4⟩ := List.getElem?_eq_some_iff.1 hk
        have := List.pairwise_iff_getElem.1 h.asc k j g3 g1 (by omega)
        rw [g2, g4] at this; omega
  refine ⟨h.hn, hv, h.ll, h.rl, fun t ht => h.lits t (List.mem_of_mem_take ht), ?_, hval, fun p t hp => ?_, fun p t hp => ?_, ?_, fun x hx => ?_⟩
  · rw [List.map_take]; exact h.nd.sublist (List.take_sublist _ _)
  · obtain ⟨h1, h2⟩ := hpos p t hp
    rw [h.lvl p t h2, lev_take h.asc hk h1]
  · obtain ⟨h1, h2⟩ := hpos p t hp
    rcases h.rsn p t h2 with ⟨g1, g2⟩ | ⟨g1, g2, D, g3, g4⟩
    · exact .inl ⟨g1, hdk _ g2 h1⟩
    · refine .inr ⟨fun hh => g1 (List.mem_of_mem_take hh), g2, D, g3, fun x hx => ?_⟩
      rw [List.take_take, Nat.min_eq_left (by omega)]; exact g4 x hx
  · exact h.asc.sublist (List.take_sublist _ _)
  · have h1 := htk x hx
    have h2 := h.sb x (List.mem_of_mem_take hx)
    rw [List.length_take]; omega
/-- Clauses that have turned within. -/
theorem TI.turn (h : TI n value level reason T starts Cl) {Cl' : List (List Int)} (hc : ∀ (i : Nat) (C : List Int), Cl[i]? = some C → ∃ C', Cl'[i]? = some C' ∧ ∀ t D, C = t :: D → t ∈ T → ∃ D', C' = t :: D' ∧ ∀ x, x ∈ D' → x ∈ D) : TI n value level reason T starts Cl' :=
  ⟨h.hn, h.vals, h.ll, h.rl, h.lits, h.nd, h.val, h.lvl, fun p t hp => by
    rcases h.rsn p t hp with g | ⟨g1, g2, D, g3, g4⟩
    · exact .inl g
    · obtain ⟨C', e1, e2⟩ := hc _ _ g3
      obtain ⟨D', rfl, e3⟩ := e2 t D rfl (List.mem_of_getElem? hp)
      exact .inr ⟨g1, g2, D', e1, fun x hx => g4 x (e3 x hx)⟩, h.asc, h.sb⟩
theorem TI.i64 (h : TI n value level reason T starts Cl) {l : Int} (hl : isLit n l = true) : I64 (-l) ∧ In (max l (-l)) value ∧ In (max l (-l)) level ∧ In (max l (-l)) reason := by
  have h1 := lit_av h.okn hl
  have h2 := h.vals.in h.okn hl
  have := h.ll; have := h.rl; have := h.hn
  refine ⟨h1.2.2.2, h2, ?_, ?_⟩ <;> (unfold In; unfold av at h1; omega)
end ti
section fn
variable {n : Int} {cs : List Raw} {watch : List (Int × Raw)} {value level reason T starts : List Int} {head : Int} {heat : List Unit} {proof : List (Bool × List Int)} {dead : Bool} {A : Arena} {Cl : List (List Int)}
theorem of_ok (h : TI n value level reason T starts Cl) {l : Int} (hl : isLit n l = true) {Q : Int → Prop} (hq : Q (tv T l)) : V_of n cs watch value level reason T starts head heat proof dead A l Q := by
  have h1 := h.i64 hl
  have hv := h.val l hl
  have hs := h.vals.of l
  unfold valOf at hv hs
  refine ⟨fun hneg => ⟨h1.1, ?_, fun _ => ?_⟩, fun hpos => ⟨?_, fun _ => ?_⟩⟩
  · have := h1.2.1; rwa [show max l (-l) = -l by omega] at this
  · have e : av l = -l := by unfold av; omega
    rw [if_pos hneg, e] at hv hs
    rw [hv]; exact ⟨by rw [hv] at hs; unfold I64; omega, hq⟩
  · have := h1.2.1; rwa [show max l (-l) = l by omega] at this
  · have e : av l = l := by unfold av; omega
    rw [if_neg hpos, e] at hv
    rw [hv]; exact hq
theorem set_ok (h : TI n value level reason T starts Cl) {starts' : List Int} {l r : Int} (hl : isLit n l = true) {Q : List Int → List Int → List Int → List Int → Prop}
    (hq : Q (setv value l) (level.set (av l).toNat starts'.length) (reason.set (av l).toNat r) (T ++ [l])) : V_set n cs watch value level reason T starts' head heat proof dead A l r Q := by
  obtain ⟨h1, h2, h3, h4⟩ := h.i64 hl
  have hlen := h.len; have := h.hn
  refine ⟨h1, h2, fun v => v = setv value l, ?_, fun hneg => ⟨?_, ?_⟩, fun hpos => ?_⟩
  · rintro v rfl hl'
    exact ⟨h3, h4, ⟨by rw [List.length_singleton]; omega, by rw [List.length_singleton]; unfold maxLen; omega⟩, hq⟩
  · unfold In at *; rw [List.length_set]; exact h2
  · show (value.set (av l).toNat 1).set (av l).toNat (-1) = setv value l
    rw [List.set_set]; unfold setv sgn; rw [if_pos hneg]
  · show value.set (av l).toNat 1 = setv value l
    unfold setv sgn; rw [if_neg hpos]
theorem back_ok (h : TI n value level reason T starts Cl) {k : Nat} {s : Int} (hk : starts[k]? = some s) {Q : List Int → List Int → List Int → Int → Prop}
    (hq : ∀ value', Vals n value' → (∀ l, isLit n l = true → valOf value' l = tv (T.take s.toNat) l) → Q value' (T.take s.toNat) (starts.take k) ((T.take s.toNat).length : Int)) : V_back n cs watch value level reason T starts head heat proof dead A (k : Int) Q := by
  have hkl := (List.getElem?_eq_some_iff.1 hk).1
  have hsb := h.sb s (List.mem_of_getElem? hk)
  have hlen := h.len; have hn := h.hn
  have hix : ix starts (k : Int) = s := by
    obtain ⟨g1, g2⟩ := List.getElem?_eq_some_iff.1 hk
    rw [ix_nat g1, g2]
  intro _
  refine ⟨fun hc => by omega, fun _ => ⟨⟨by omega, by omega⟩, fun _ => ?_⟩⟩
  rw [hix]
  refine ⟨⟨hsb.1, hsb.2⟩, by unfold I64; omega, fun st => 0 ≤ st.2 ∧ st.2 ≤ (T.length : Int) - s ∧ Vals n st.1 ∧ ∀ l, isLit n l = true → valOf st.1 l = if l ∈ (T.drop s.toNat).take st.2.toNat ∨ -l ∈ (T.drop s.toNat).take st.2.toNat then 0 else tv T l,
    fun st => ((T.length : Int) - s - st.2).toNat, ⟨by omega, by first | omega | (dsimp only; omega), h.vals, fun l hl => by simp [h.val l hl]⟩, ?_⟩
  rintro ⟨c, x⟩ ⟨h0, h1, hv, hval⟩
  dsimp only at h0 h1 hv hval ⊢
  refine ⟨fun hlt => ⟨⟨h0, by omega, by omega⟩, fun _ => ?_⟩, fun hge => ⟨⟨by omega, by omega⟩, fun _ => ⟨⟨hsb.1, by omega⟩, ⟨by omega, by omega⟩, fun _ => ?_⟩⟩⟩
  · have hin : (s + x).toNat < T.length := by omega
    have hTp : T[(s + x).toNat]? = some (ix T (s + x)) := ix_get (by omega) (by omega)
    have hmem := List.mem_of_getElem? hTp
    have hlit := h.lits _ hmem
    generalize ix T (s + x) = t at *
    have h3 := h.i64 hlit
    have h4 := lit_av h.okn hlit
    refine ⟨h3.1, ?_, by unfold I64; omega, ⟨by omega, by omega, ⟨by rw [List.length_set]; exact hv.1, fun y hy => ?_⟩, fun l hl => ?_⟩, by omega⟩
    · have := hv.1; have := h.vals.1; have := h3.2.1; unfold In at *; omega
    · rcases List.mem_or_eq_of_mem_set hy with hy | hy
      · exact hv.2 y hy
      · rw [hy]; simp
    · have e1 : (x + 1).toNat = x.toNat + 1 := by omega
      have e2 : (T.drop s.toNat)[x.toNat]? = some t := by rw [List.getElem?_drop, show s.toNat + x.toNat = (s + x).toNat by omega]; exact hTp
      have e3 : (T.drop s.toNat).take (x + 1).toNat = (T.drop s.toNat).take x.toNat ++ [t] := by
        obtain ⟨g1, g2⟩ := List.getElem?_eq_some_iff.1 e2
        rw [e1, List.take_succ_eq_append_getElem g1, g2]
      rw [e3]
      simp only [List.mem_append, List.mem_singleton]
      have hla := lit_av h.okn hl
      by_cases he : av l = av t
      · have e4 : valOf (c.set (max t (-t)).toNat 0) l = 0 := by
          have : ix (c.set (max t (-t)).toNat 0) (av l) = 0 := by
            unfold ix
            have e5 : (max t (-t)).toNat = (av l).toNat := by rw [he]; rfl
            rw [e5, List.getD_eq_getElem?_getD, List.getElem?_set_self (by rw [hv.1]; omega)]; rfl
          unfold valOf; rw [this]; simp
        rw [e4, if_pos]
        rcases av_eq he with e | e
        · exact .inl (.inr e)
        · exact .inr (.inr (by omega))
      · have e4 : valOf (c.set (max t (-t)).toNat 0) l = valOf c l := by
          have : ix (c.set (max t (-t)).toNat 0) (av l) = ix c (av l) := by
            unfold ix
            have e5 : (max t (-t)).toNat = (av t).toNat := rfl
            rw [e5, List.getD_eq_getElem?_getD, List.getD_eq_getElem?_getD, List.getElem?_set_ne (by omega)]
          unfold valOf; rw [this]
        have n1 : ¬ l = t := fun e => he (by rw [e])
        have n2 : ¬ -l = t := fun e => he (by rw [← e, av_neg])
        rw [e4, hval l hl]
        simp only [n1, n2, or_false]
  · refine hq c hv fun l hl => ?_
    rw [hval l hl]
    have e1 : (T.drop s.toNat).take x.toNat = T.drop s.toNat := List.take_of_length_le (by rw [List.length_drop]; omega)
    rw [e1]
    have hd : ∀ y, y ∈ T.drop s.toNat → y ∉ T.take s.toNat ∧ -y ∉ T.take s.toNat := fun y hy => by
      have hnd : (T.take s.toNat ++ T.drop s.toNat).Nodup := by rw [List.take_append_drop]; exact nodup_of_map h.nd
      rw [List.nodup_append] at hnd
      exact ⟨fun hh => hnd.2.2 y hh y hy rfl, fun hh => h.cons (List.mem_of_mem_drop hy) (List.mem_of_mem_take hh)⟩
    have hall : ∀ y, y ∈ T ↔ y ∈ T.take s.toNat ∨ y ∈ T.drop s.toNat := fun y => by
      rw [← List.mem_append, List.take_append_drop]
    by_cases h3 : l ∈ T.drop s.toNat ∨ -l ∈ T.drop s.toNat
    · rw [if_pos h3]
      symm
      rw [tv_zero]
      rcases h3 with h3 | h3
      · exact hd l h3
      · have := hd (-l) h3
        rw [Int.neg_neg] at this; exact ⟨this.2, this.1⟩
    · rw [if_neg h3]
      rw [not_or] at h3
      have a1 : l ∈ T ↔ l ∈ T.take s.toNat := by rw [hall l]; simp [h3.1]
      have a2 : -l ∈ T ↔ -l ∈ T.take s.toNat := by rw [hall (-l)]; simp [h3.2]
      simp only [tv, a1, a2]
theorem warm_ok {v : Int} {Q : List Unit → Prop} (hi : In v heat) (hlen : (heat.length : Int) ≤ 25) (hq : ∀ heat', heat'.length = heat.length → Q heat') : V_warm n cs watch value level reason T starts head heat proof dead A v Q := by
  refine ⟨hi, hi, ⟨hi.1, by rw [List.length_set]; exact hi.2⟩, fun b => ⟨fun _ _ => ?_, fun _ => hq _ (by simp)⟩⟩
  refine ⟨fun st => 0 ≤ st.2 ∧ st.2 ≤ (heat.length : Int) ∧ st.1.length = heat.length, fun st => ((heat.length : Int) - st.2).toNat, ⟨by omega, by first | omega | (dsimp only; omega), by simp⟩, ?_⟩
  rintro ⟨c, x⟩ ⟨h0, h1, h2⟩
  dsimp only at h0 h1 h2 ⊢
  rw [List.length_set]
  refine ⟨fun hlt => ⟨⟨h0, by omega⟩, ⟨h0, by omega⟩, by unfold I64; omega, ⟨by omega, by omega, by rw [List.length_set]; exact h2⟩, by first | omega | (dsimp only; omega)⟩, fun _ => hq c h2⟩
theorem pick_ok (h : TI n value level reason T starts Cl) (hh : (heat.length : Int) = n + 1) {Q : Int → Prop} (h1 : ∀ v, 1 ≤ v → v ≤ n → tv T v = 0 → Q v) (h2 : (∀ v, 1 ≤ v → v ≤ n → tv T v ≠ 0) → Q 0) : V_pick n cs watch value level reason T starts head heat proof dead A Q := by
  have hn := h.hn
  refine ⟨fun st => 1 ≤ st.2 ∧ st.2 ≤ n + 1 ∧ ((st.1 = 0 ∧ ∀ v, 1 ≤ v → v < st.2 → tv T v ≠ 0) ∨ (1 ≤ st.1 ∧ st.1 ≤ n ∧ tv T st.1 = 0)), fun st => (n + 1 - st.2).toNat, ⟨by simp, by simp; omega, .inl ⟨rfl, fun v _ _ => by omega⟩⟩, ?_⟩
  rintro ⟨best, v⟩ ⟨g0, g1, g2⟩
  dsimp only at g0 g1 g2 ⊢
  refine ⟨fun hle => ?_, fun hgt => ?_⟩
  · have hl : isLit n v = true := by rw [isLit_iff]; omega
    have hval := h.val v hl
    have e : av v = v := by unfold av; omega
    unfold valOf at hval
    rw [if_neg (by omega), e] at hval
    have hin : In v value := by have := (h.i64 hl).2.1; rwa [show max v (-v) = v by omega] at this
    refine ⟨fun b => (b = best ∧ tv T v ≠ 0) ∨ (b = v ∧ tv T v = 0) ∨ (b = best ∧ best ≠ 0), ?_, fun x => (x = true → tv T v = 0) ∧ (x = false → tv T v ≠ 0 ∨ best ≠ 0), ?_, hin, fun _ => ⟨fun hz => ⟨fun hb => ?_, fun hb => ⟨⟨by omega, by omega⟩, ?_, fun b => ?_⟩⟩, fun hz => ?_⟩⟩
    · intro b hb
      refine ⟨by unfold I64; omega, ⟨by omega, by omega, ?_⟩, by first | omega | (dsimp only; omega)⟩
      try dsimp only
      rcases hb with ⟨rfl, hb⟩ | ⟨rfl, hb⟩ | ⟨rfl, hb⟩
      · rcases g2 with ⟨g3, g4⟩ | g3
        · refine .inl ⟨g3, fun u hu1 hu2 => ?_⟩
          by_cases e : u = v
          · subst e; exact hb
          · exact g4 u hu1 (by omega)
        · exact .inr g3
      · exact .inr ⟨g0, hle, hb⟩
      · rcases g2 with ⟨g3, g4⟩ | g3
        · exact absurd g3 hb
        · exact .inr g3
    · intro x hx
      exact ⟨fun e => .inr (.inl ⟨rfl, hx.1 e⟩), fun e => (hx.2 e).elim (fun h => .inl ⟨rfl, h⟩) (fun h => .inr (.inr ⟨rfl, h⟩))⟩
    · exact ⟨fun _ => by rw [← hval]; exact hz, fun e => by cases e⟩
    · rcases g2 with ⟨g3, _⟩ | ⟨g3, g4, _⟩
      · exact absurd g3 hb
      · exact ⟨by omega, by omega⟩
    · exact ⟨fun _ => by rw [← hval]; exact hz, fun _ => .inr hb⟩
    · exact ⟨fun e => (by cases e), fun _ => .inl (by rw [← hval]; exact hz)⟩
  · rcases g2 with ⟨rfl, g3⟩ | ⟨g3, g4, g5⟩
    · exact h2 fun u hu1 hu2 => g3 u hu1 (by omega)
    · exact h1 _ g3 g4 g5
theorem found_ok (h : TI n value level reason T starts Cl) {Q : Bool → List Bool → List Int → List (Bool × List Int) → Prop} (hq : ∀ m : List Bool, (m.length : Int) = n → (∀ v : Int, 1 ≤ v → v ≤ n → ix m (v - 1) = decide (v ∈ T)) → Q true m [] []) :
    V_found n cs watch value level reason T starts head heat proof dead A Q := by
  have hn := h.hn
  refine ⟨fun st => 1 ≤ st.2 ∧ st.2 ≤ n + 1 ∧ (st.1.length : Int) = st.2 - 1 ∧ ∀ v : Int, 1 ≤ v → v < st.2 → ix st.1 (v - 1) = decide (v ∈ T), fun st => (n + 1 - st.2).toNat, ⟨by simp, by simp; omega, by simp, fun v _ _ => by omega⟩, ?_⟩
  rintro ⟨m, v⟩ ⟨g0, g1, g2, g3⟩
  dsimp only at g0 g1 g2 g3 ⊢
  refine ⟨fun hle => ?_, fun hgt => hq m (by omega) fun u h1 h2 => g3 u h1 (by omega)⟩
  have hl : isLit n v = true := by rw [isLit_iff]; omega
  have hval := h.val v hl
  have e : av v = v := by unfold av; omega
  unfold valOf at hval
  rw [if_neg (by omega), e] at hval
  have hin : In v value := by have := (h.i64 hl).2.1; rwa [show max v (-v) = v by omega] at this
  refine ⟨hin, fun _ => ⟨⟨by rw [List.length_singleton]; omega, by rw [List.length_singleton]; unfold maxLen; omega⟩, by unfold I64; omega, ⟨by omega, by omega, by simp; omega, fun u h1 h2 => ?_⟩, by first | omega | (dsimp only; omega)⟩⟩
  try dsimp only
  by_cases e : u = v
  · subst e
    have e2 : (u - 1).toNat = m.length := by omega
    unfold ix
    rw [e2, List.getD_eq_getElem?_getD, List.getElem?_append_right (Nat.le_refl _), Nat.sub_self]
    simp only [List.getElem?_cons_zero, Option.getD_some]
    rw [show value.getD u.toNat default = ix value u from rfl, hval]
    by_cases h3 : u ∈ T
    · rw [decide_eq_true h3, decide_eq_true (tv_pos.2 h3)]
    · rw [decide_eq_false h3, decide_eq_false fun h => h3 (tv_pos.1 h)]
  · have h4 := g3 u h1 (by omega)
    rw [← h4]
    unfold ix
    simp only [List.getD_eq_getElem?_getD]
    rw [List.getElem?_append_left (by omega)]
end fn
end Go.Vc
