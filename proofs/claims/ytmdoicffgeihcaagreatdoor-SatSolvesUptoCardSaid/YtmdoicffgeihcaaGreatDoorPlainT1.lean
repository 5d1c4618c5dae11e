/- The search's memory: each clause and each watch list lies in a block of its own; what is done to one leaves the others. No program in sight. -/
import Derived.Test.YtmdoicffgeihcaaGreatDoorPlainT0
set_option linter.unusedVariables false
namespace Go.Vc
theorem mgetD_mset {κ ν : Type} [DecidableEq κ] {m : List (κ × ν)} {k k' : κ} {v d : ν} : mgetD (mset m k v) k' d = if k = k' then v else mgetD m k' d := by
  induction m with
  | nil =>
    by_cases h : k' = k
    · subst h; simp [mgetD, mset, mfind]
    · have : ¬ k = k' := fun e => h e.symm
      simp [mgetD, mset, mfind, h, this]
  | cons p m ih =>
    obtain ⟨a, b⟩ := p
    simp only [mset]
    by_cases h1 : k = a
    · subst h1
      rw [if_pos rfl]
      by_cases h2 : k' = k
      · subst h2; simp [mgetD, mfind]
      · have : ¬ k = k' := fun e => h2 e.symm
        simp [mgetD, mfind, h2, this]
    · rw [if_neg h1]
      by_cases h2 : k' = a
      · subst h2
        simp [mgetD, mfind, h1]
      · have e1 : mgetD ((a, b) :: mset m k v) k' d = mgetD (mset m k v) k' d := by simp [mgetD, mfind, h2]
        have e2 : mgetD ((a, b) :: m) k' d = mgetD m k' d := by simp [mgetD, mfind, h2]
        rw [e1, e2, ih]
inductive Key where
  | cl (i : Nat)
  | wt (l : Int)
deriving DecidableEq
abbrev Own := Nat → Option Key
/-- One slice lies from the head of a block of its own on. -/
def Lies (A : Arena) (own : Own) (κ : Key) (r : Raw) : Prop := r = rnil ∨ ∃ b zs, r.ad = some (b, 0) ∧ aget A b = some (zs, r.cap) ∧ r.n ≤ zs.length ∧ own b = some κ ∧ r.n ≤ r.cap
def MemO (A : Arena) (F : Key → Raw) (own : Own) : Prop := ∀ κ, Lies A own κ (F κ)
/-- What belongs to other keys lies as it lay. -/
def Fix (κ : Key) (A : Arena) (own : Own) (A' : Arena) (own' : Own) : Prop := ∀ b κ', κ' ≠ κ → own b = some κ' → aget A b ≠ none → aget A' b = aget A b ∧ own' b = some κ'
theorem Fix.refl (κ : Key) (A : Arena) (own : Own) : Fix κ A own A own := fun b κ' _ h2 _ => ⟨rfl, h2⟩
theorem Fix.trans {κ : Key} {A A' A'' : Arena} {own own' own'' : Own} (h : Fix κ A own A' own') (k : Fix κ A' own' A'' own'') : Fix κ A own A'' own'' := fun b κ' h1 h2 h3 => by
  obtain ⟨g1, g2⟩ := h b κ' h1 h2 h3
  obtain ⟨g3, g4⟩ := k b κ' h1 g2 (by rw [g1]; exact h3)
  exact ⟨g3.trans g1, g4⟩
theorem Lies.other {κ κ' : Key} {A A' : Arena} {own own' : Own} {r : Raw} (hne : κ' ≠ κ) (h : Lies A own κ' r) (hf : Fix κ A own A' own') : Lies A' own' κ' r ∧ aread A' r = aread A r := by
  rcases h with rfl | ⟨b, zs, h1, h2, h3, h4⟩
  · exact ⟨.inl rfl, rfl⟩
  · obtain ⟨g1, g2⟩ := hf b κ' hne h4.1 (by rw [h2]; simp)
    refine ⟨.inr ⟨b, zs, h1, by rw [g1, h2], h3, g2, h4.2⟩, ?_⟩
    unfold aread
    rw [h1]
    simp only [acont, g1]
theorem aread_at {A : Arena} {r : Raw} {b : Nat} {zs : List Int} {cap : Nat} (h1 : r.ad = some (b, 0)) (h2 : aget A b = some (zs, cap)) : aread A r = zs.take r.n := by
  unfold aread; rw [h1]; simp [acont, h2]
theorem aread_nil (A : Arena) : aread A rnil = [] := rfl
theorem Lies.length {A : Arena} {own : Own} {κ : Key} {r : Raw} (h : Lies A own κ r) : (aread A r).length = r.n := by
  rcases h with rfl | ⟨b, zs, h1, h2, h3, _⟩
  · rfl
  · rw [aread_at h1 h2, List.length_take]; omega
theorem Lies.apok {A : Arena} {own : Own} {κ : Key} {r : Raw} (h : Lies A own κ r) : ApOk A r := by
  rcases h with rfl | ⟨b, zs, h1, h2, h3, _⟩
  · exact .inl rfl
  · exact .inr ⟨b, zs, h1, h2, h3⟩
theorem Lies.rd {A : Arena} {own : Own} {κ : Key} {r : Raw} {i : Int} (h : Lies A own κ r) (h0 : 0 ≤ i) (h1 : i < r.n) : InR r i ∧ RdOk A r i ∧ ag A r i = ix (aread A r) i := by
  rcases h with rfl | ⟨b, zs, g1, g2, g3, _⟩
  · simp only at h1; omega
  · have hlt : i.toNat < r.n := by omega
    refine ⟨⟨by rw [g1]; simp, h0, h1⟩, ⟨b, 0, g1, by rw [g2]; rfl, by simp [acont, g2]; omega⟩, ?_⟩
    rw [aread_at g1 g2]
    unfold ag
    rw [g1]
    simp only [acont, g2, Option.map_some, Option.getD_some, Nat.zero_add, ix]
    rw [List.getD_eq_getElem?_getD, List.getD_eq_getElem?_getD, List.getElem?_take_of_lt hlt]
    rfl
theorem Lies.cap {A : Arena} {own : Own} {κ : Key} {r : Raw} (h : Lies A own κ r) : r.n ≤ r.cap := by
  rcases h with rfl | ⟨b, zs, h1, h2, h3, h4, h5⟩
  · exact Nat.le_refl _
  · exact h5
theorem MemO.fix {κ : Key} {A A' : Arena} {F F' : Key → Raw} {own own' : Own} (h : MemO A F own) (hf : Fix κ A own A' own') (hF : ∀ κ', κ' ≠ κ → F' κ' = F κ') (hk : Lies A' own' κ (F' κ)) : MemO A' F' own' := fun κ' => by
  by_cases e : κ' = κ
  · subst e; exact hk
  · rw [hF κ' e]; exact ((h κ').other e hf).1
/-- An element is written. -/
theorem Lies.set {A : Arena} {own : Own} {κ : Key} {r : Raw} {i z : Int} (h : Lies A own κ r) (h0 : 0 ≤ i) (h1 : i < r.n) : Fix κ A own (aset A r i z) own ∧ Lies (aset A r i z) own κ r ∧ aread (aset A r i z) r = (aread A r).set i.toNat z := by
  rcases h with rfl | ⟨b, zs, g1, g2, g3, g4⟩
  · simp only at h1; omega
  · have e : aset A r i z = aput A b (zs.set i.toNat z) := by unfold aset; rw [g1]; simp [acont, g2]
    rw [e]
    have hg : aget (aput A b (zs.set i.toNat z)) b = some (zs.set i.toNat z, r.cap) := by rw [aget_aput, if_pos rfl, g2]; rfl
    refine ⟨fun c κ' hne ho hn => ⟨?_, ho⟩, .inr ⟨b, _, g1, hg, by simpa using g3, g4⟩, ?_⟩
    · rw [aget_aput, if_neg]; rintro rfl; rw [g4.1] at ho; cases ho; exact hne rfl
    · rw [aread_at g1 hg, aread_at g1 g2, List.take_set]
/-- More is put behind a list. -/
theorem Lies.append {A A' : Arena} {own : Own} {κ : Key} {r r' : Raw} {ys : List Int} (h : Lies A own κ r) (hA : ApR A r ys A' r') : ∃ own', Fix κ A own A' own' ∧ Lies A' own' κ r' ∧ aread A' r' = aread A r ++ ys := by
  have hlen := h.length
  rcases hA with ⟨rfl, rfl, rfl⟩ | ⟨b, zs, h1, h2, h3, rfl, rfl⟩ | ⟨b, cap, h1, h2, rfl, rfl⟩
  · exact ⟨own, Fix.refl _ _ _, h, by simp⟩
  · rcases h with rfl | ⟨b', zs', g1, g2, g3, g4⟩
    · cases h1
    · rw [h1] at g1; cases g1
      rw [h2] at g2; cases g2
      have hg : aget (aput A b (zs.take r.n ++ (ys ++ zs.drop (r.n + ys.length)))) b = some (zs.take r.n ++ (ys ++ zs.drop (r.n + ys.length)), r.cap) := by rw [aget_aput, if_pos rfl, h2]; rfl
      refine ⟨own, fun c κ' hne ho hn => ⟨?_, ho⟩, .inr ⟨b, _, h1, hg, ?_, g4.1, h3⟩, ?_⟩
      · rw [aget_aput, if_neg]; rintro rfl; rw [g4.1] at ho; cases ho; exact hne rfl
      · simp only [List.length_append, List.length_take, List.length_drop]; omega
      · rw [aread_at (r := ⟨r.ad, r.n + ys.length, r.cap⟩) h1 hg, aread_at h1 h2]
        simp only
        have e1 : (zs.take r.n).length = r.n := by rw [List.length_take]; omega
        have : r.n + ys.length = (zs.take r.n ++ ys).length := by rw [List.length_append, e1]
        rw [this, ← List.append_assoc, List.take_left]
  · refine ⟨fun c => if c = b then some κ else own c, fun c κ' hne ho hn => ?_, .inr ⟨b, aread A r ++ ys, rfl, by rw [aget_cons, if_pos rfl], by simp [hlen], by simp, h2⟩, ?_⟩
    · have hc : ¬ c = b := fun e => hn (by rw [e]; exact h1)
      have hc' : ¬ b = c := fun e => hc e.symm
      exact ⟨by rw [aget_cons, if_neg hc'], by simp [hc, ho]⟩
    · rw [aread_at (b := b) (zs := aread A r ++ ys) (cap := cap) rfl (by rw [aget_cons, if_pos rfl])]
      exact List.take_of_length_le (by simp [hlen])
/-- A new list. -/
theorem Lies.absorb {A A' : Arena} {own : Own} {κ : Key} {r : Raw} {xs : List Int} (hA : AbR A xs A' r) : ∃ own', Fix κ A own A' own' ∧ Lies A' own' κ r ∧ aread A' r = xs := by
  rcases hA with ⟨rfl, rfl, rfl⟩ | ⟨b, cap, h1, h2, rfl, rfl⟩
  · exact ⟨own, Fix.refl _ _ _, .inl rfl, rfl⟩
  · refine ⟨fun c => if c = b then some κ else own c, fun c κ' hne ho hn => ?_, .inr ⟨b, xs, rfl, by rw [aget_cons, if_pos rfl], by simp, by simp, h2⟩, ?_⟩
    · have hc : ¬ c = b := fun e => hn (by rw [e]; exact h1)
      have hc' : ¬ b = c := fun e => hc e.symm
      exact ⟨by rw [aget_cons, if_neg hc'], by simp [hc, ho]⟩
    · rw [aread_at (b := b) (zs := xs) (cap := cap) rfl (by rw [aget_cons, if_pos rfl])]
      exact List.take_of_length_le (by simp)
/-- All slices of the search. -/
def FF (cs : List Raw) (watch : List (Int × Raw)) : Key → Raw
  | .cl i => cs.getD i rnil
  | .wt l => mgetD watch l rnil
/-- What the clauses are; what a literal's list is. -/
def clsOf (A : Arena) (cs : List Raw) : List (List Int) := cs.map (aread A)
def wtOf (A : Arena) (watch : List (Int × Raw)) (l : Int) : List Int := aread A (mgetD watch l rnil)
theorem ix_cs {cs : List Raw} {i : Int} : ix cs i = cs.getD i.toNat rnil := rfl
theorem FF_wt {cs : List Raw} {watch : List (Int × Raw)} {l : Int} {r : Raw} {κ : Key} (h : κ ≠ .wt l) : FF cs (mset watch l r) κ = FF cs watch κ := by
  cases κ with
  | cl i => rfl
  | wt k =>
    have : ¬ l = k := fun e => h (by rw [e])
    simp [FF, mgetD_mset, this]
theorem FF_wt' {cs : List Raw} {watch : List (Int × Raw)} {l : Int} {r : Raw} : FF cs (mset watch l r) (.wt l) = r := by simp [FF, mgetD_mset]
theorem FF_cl {cs : List Raw} {watch : List (Int × Raw)} {r : Raw} {κ : Key} (h : κ ≠ .cl cs.length) : FF (cs ++ [r]) watch κ = FF cs watch κ := by
  cases κ with
  | wt k => rfl
  | cl i =>
    have hi : i ≠ cs.length := fun e => h (by rw [e])
    simp only [FF]
    rcases Nat.lt_or_ge i cs.length with hl | hl
    · simp [List.getD_eq_getElem?_getD, List.getElem?_append_left hl]
    · rw [List.getD_eq_getElem?_getD, List.getD_eq_getElem?_getD, List.getElem?_eq_none (by simp; omega), List.getElem?_eq_none hl]
theorem FF_cl' {cs : List Raw} {watch : List (Int × Raw)} {r : Raw} : FF (cs ++ [r]) watch (.cl cs.length) = r := by simp [FF]
theorem clsOf_fix {A A' : Arena} {own own' : Own} {cs : List Raw} {watch : List (Int × Raw)} {l : Int} (h : MemO A (FF cs watch) own) (hf : Fix (.wt l) A own A' own') : clsOf A' cs = clsOf A cs := by
  unfold clsOf
  refine List.map_congr_left fun r hr => ?_
  obtain ⟨i, hi⟩ := List.getElem?_of_mem hr
  have h1 := h (.cl i)
  have e : FF cs watch (.cl i) = r := by simp [FF, List.getD_eq_getElem?_getD, hi]
  rw [e] at h1
  exact (h1.other (by simp) hf).2
theorem wtOf_fix {A A' : Arena} {own own' : Own} {cs : List Raw} {watch : List (Int × Raw)} {κ : Key} {l : Int} (hne : Key.wt l ≠ κ) (h : MemO A (FF cs watch) own) (hf : Fix κ A own A' own') : wtOf A' watch l = wtOf A watch l := ((h (.wt l)).other hne hf).2
theorem clsOf_set {A A' : Arena} {own own' : Own} {cs : List Raw} {watch : List (Int × Raw)} {i : Nat} (h : MemO A (FF cs watch) own) (hf : Fix (.cl i) A own A' own') : clsOf A' cs = (clsOf A cs).set i (aread A' (cs.getD i rnil)) := by
  apply List.ext_getElem?
  intro k
  rw [List.getElem?_set]
  unfold clsOf
  by_cases hk : i = k
  · subst hk
    rw [if_pos rfl]
    rcases Nat.lt_or_ge i cs.length with hl | hl
    · simp [hl, List.getD_eq_getElem?_getD]
    · rw [if_neg (by simp; omega)]
      rw [List.getElem?_eq_none (by simp; omega)]
  · rw [if_neg hk, List.getElem?_map, List.getElem?_map]
    cases hx : cs[k]? with
    | none => rfl
    | some r =>
      have h1 := h (.cl k)
      have e : FF cs watch (.cl k) = r := by simp [FF, List.getD_eq_getElem?_getD, hx]
      rw [e] at h1
      simp only [Option.map_some]
      rw [(h1.other (by intro e; cases e; exact hk rfl) hf).2]
theorem clsOf_get {A : Arena} {cs : List Raw} {i : Nat} (hi : i < cs.length) : (clsOf A cs)[i]? = some (aread A (cs.getD i rnil)) := by
  simp [clsOf, List.getD_eq_getElem?_getD, hi]
theorem clsOf_length {A : Arena} {cs : List Raw} : (clsOf A cs).length = cs.length := by simp [clsOf]
end Go.Vc
