/- The watched pairs: what is so of them while a list is gone through. No program in sight. -/
import Derived.Test.YtmdoicffgeihcaaGreatDoorPlainT5
set_option linter.unusedVariables false
namespace Go.Vc
/-- A literal's list holds the clauses that watch it. -/
def WS (Cl : List (List Int)) (L : List Int) (l : Int) : Prop := L.Nodup ∧ ∀ i : Int, i ∈ L ↔ ∃ C, 0 ≤ i ∧ Cl[i.toNat]? = some C ∧ l ∈ C.take 2
def CW (n : Int) (Cl : List (List Int)) : Prop := ∀ C ∈ Cl, C ≠ [] ∧ C.Nodup ∧ litsOk n C = true ∧ C.length ≤ 1048576
/-- Where a watched literal is false (and this has been looked at) the other one is true, and was no later. -/
def QI (Cl : List (List Int)) (T starts : List Int) (head : Nat) (ex : Int → Int → Prop) : Prop :=
  ∀ (i : Nat) (C : List Int) (a : Int) (q : Nat), Cl[i]? = some C → a ∈ C.take 2 → T[q]? = some (-a) → q < head → ex a i ∨ ∃ b ∈ C.take 2, ∃ p : Nat, T[p]? = some b ∧ lev starts p ≤ lev starts q
def CP (Cl Cl' : List (List Int)) : Prop := Cl'.length = Cl.length ∧ ∀ (i : Nat) (C' : List Int), Cl'[i]? = some C' → ∃ C, Cl[i]? = some C ∧ C'.Perm C
theorem CP.refl (Cl : List (List Int)) : CP Cl Cl := ⟨rfl, fun i C h => ⟨C, h, List.Perm.refl _⟩⟩
theorem CP.trans {X Y Z : List (List Int)} (h : CP X Y) (k : CP Y Z) : CP X Z := ⟨k.1.trans h.1, fun i C hC => by
  obtain ⟨D, h1, h2⟩ := k.2 i C hC
  obtain ⟨E, h3, h4⟩ := h.2 i D h1
  exact ⟨E, h3, h2.trans h4⟩⟩
theorem get_set_cases {α : Type} {l : List α} {i j : Nat} {x y : α} (h : (l.set i x)[j]? = some y) : (j = i ∧ y = x ∧ i < l.length) ∨ (j ≠ i ∧ l[j]? = some y) := by
  rw [List.getElem?_set] at h
  by_cases e : i = j
  · rw [if_pos e] at h
    split at h
    · exact .inl ⟨e.symm, (Option.some.inj h).symm, by omega⟩
    · cases h
  · rw [if_neg e] at h; exact .inr ⟨fun e' => e e'.symm, h⟩
theorem get_set_same {α : Type} {l : List α} {i : Nat} {x y : α} (h : l[i]? = some y) : (l.set i x)[i]? = some x := by
  rw [List.getElem?_set_self (List.getElem?_eq_some_iff.1 h).1]
theorem get_set_other {α : Type} {l : List α} {i j : Nat} {x y : α} (hij : j ≠ i) (h : l[j]? = some y) : (l.set i x)[j]? = some y := by
  rw [List.getElem?_set_ne (fun e => hij e.symm)]; exact h
theorem CP.set {Cl : List (List Int)} {i : Nat} {C C1 : List Int} (hi : Cl[i]? = some C) (hp : C1.Perm C) : CP Cl (Cl.set i C1) := ⟨by simp, fun j D hD => by
  rcases get_set_cases hD with ⟨rfl, rfl, _⟩ | ⟨_, h⟩
  · exact ⟨C, hi, hp⟩
  · exact ⟨D, h, List.Perm.refl _⟩⟩
theorem CW.set {n : Int} {Cl : List (List Int)} (h : CW n Cl) {i : Nat} {C C1 : List Int} (hi : Cl[i]? = some C) (hp : C1.Perm C) : CW n (Cl.set i C1) := fun D hD => by
  rcases List.mem_or_eq_of_mem_set hD with hD | rfl
  · exact h D hD
  · obtain ⟨h1, h2, h3, h4⟩ := h C (List.mem_of_getElem? hi)
    refine ⟨fun e => ?_, hp.nodup_iff.2 h2, ?_, by rw [hp.length_eq]; exact h4⟩
    · rw [e] at hp; exact h1 (List.Perm.nil_eq hp).symm
    · exact List.all_eq_true.2 fun x hx => mem_lits h3 (hp.mem_iff.1 hx)
theorem perm_set {R : List Int} {j : Nat} {w l : Int} (h : R[j]? = some w) : (w :: R.set j l).Perm (l :: R) := by
  induction R generalizing j with
  | nil => cases h
  | cons a R ih =>
    cases j with
    | zero => simp at h; subst h; exact List.Perm.swap _ _ _
    | succ j =>
      simp only [List.getElem?_cons_succ] at h
      simp only [List.set_cons_succ]
      exact (List.Perm.swap a w _).trans (((ih h).cons a).trans (List.Perm.swap l a R))
/-- The same pairs. -/
theorem WS.same {Cl : List (List Int)} {L : List Int} {l : Int} (h : WS Cl L l) {i : Nat} {C C1 : List Int} (hi : Cl[i]? = some C) (hs : l ∈ C1.take 2 ↔ l ∈ C.take 2) : WS (Cl.set i C1) L l := ⟨h.1, fun k => by
  rw [h.2 k]
  constructor
  · rintro ⟨D, h0, hD, hl⟩
    by_cases e : k.toNat = i
    · rw [e, hi] at hD
      cases hD
      exact ⟨C1, h0, by rw [e]; exact get_set_same hi, hs.2 hl⟩
    · exact ⟨D, h0, get_set_other e hD, hl⟩
  · rintro ⟨D, h0, hD, hl⟩
    rcases get_set_cases hD with ⟨e, rfl, _⟩ | ⟨e, hD⟩
    · exact ⟨C, h0, by rw [e]; exact hi, hs.1 hl⟩
    · exact ⟨D, h0, hD, hl⟩⟩
theorem QI.same {Cl : List (List Int)} {T starts : List Int} {head : Nat} {ex : Int → Int → Prop} (h : QI Cl T starts head ex) {i : Nat} {C C1 : List Int} (hi : Cl[i]? = some C) (hs : ∀ a, a ∈ C1.take 2 ↔ a ∈ C.take 2) : QI (Cl.set i C1) T starts head ex := fun j D a q hD ha hq hlt => by
  rcases get_set_cases hD with ⟨rfl, rfl, _⟩ | ⟨e, hD⟩
  · rcases h j C a q hi ((hs a).1 ha) hq hlt with g | ⟨b, hb, p, g⟩
    · exact .inl g
    · exact .inr ⟨b, (hs b).2 hb, p, g⟩
  · exact h j D a q hD ha hq hlt
theorem QI.push {Cl : List (List Int)} {T starts : List Int} {head : Nat} {ex : Int → Int → Prop} (h : QI Cl T starts head ex) (u : Int) (hh : head ≤ T.length) : QI Cl (T ++ [u]) starts head ex := fun i C a q hC ha hq hlt => by
  rw [List.getElem?_append_left (by omega)] at hq
  rcases h i C a q hC ha hq hlt with g | ⟨b, hb, p, g1, g2⟩
  · exact .inl g
  · exact .inr ⟨b, hb, p, by rw [List.getElem?_append_left (List.getElem?_eq_some_iff.1 g1).1]; exact g1, g2⟩
/-- While a list is gone through: l is the literal that is false now, hd the place of its opposite. -/
structure IN (n l : Int) (hd : Nat) (cs : List Raw) (watch : List (Int × Raw)) (value level reason T starts : List Int) (A : Arena) (own : Own) (list kept : Raw) (x : Int) (L0 K0 : List Int) : Prop where
  ti : TI n value level reason T starts (clsOf A cs)
  cw : CW n (clsOf A cs)
  mo : ∀ κ, κ ≠ .wt l → Lies A own κ (FF cs watch κ)
  wl : mgetD watch l rnil = list
  lk : LK A own l list kept x L0 K0
  ws : ∀ k, k ≠ l → WS (clsOf A cs) (wtOf A watch k) k
  wsl : WS (clsOf A cs) (K0 ++ L0.drop x.toNat) l
  q : QI (clsOf A cs) T starts (hd + 1) (fun a i => a = l ∧ i ∈ L0.drop x.toNat)
  tl : T[hd]? = some (-l)
  st : ∀ s ∈ starts, s ≤ (hd : Int)
  big : cs.length ≤ 67108864
section step
variable {n l : Int} {hd : Nat} {cs : List Raw} {watch : List (Int × Raw)} {value level reason T starts : List Int} {A : Arena} {own : Own} {list kept : Raw} {x : Int} {L0 K0 : List Int}
theorem IN.lfalse (h : IN n l hd cs watch value level reason T starts A own list kept x L0 K0) : -l ∈ T ∧ l ∉ T ∧ tv T l = -1 := by
  have h1 := List.mem_of_getElem? h.tl
  exact ⟨h1, fun h2 => h.ti.cons h2 h1, h.ti.tv_neg h1⟩
theorem IN.llit (h : IN n l hd cs watch value level reason T starts A own list kept x L0 K0) : isLit n l = true := by
  have := h.ti.lits _ (List.mem_of_getElem? h.tl)
  rw [isLit_iff] at *; omega
theorem IN.now (h : IN n l hd cs watch value level reason T starts A own list kept x L0 K0) (hx : x < list.n) : ∃ C, 0 ≤ ix L0 x ∧ (ix L0 x).toNat < cs.length ∧ (clsOf A cs)[(ix L0 x).toNat]? = some C ∧ l ∈ C.take 2 ∧ C ∈ clsOf A cs ∧ C = aread A (cs.getD (ix L0 x).toNat rnil) ∧ L0.drop x.toNat = ix L0 x :: L0.drop (x + 1).toNat := by
  have hl := h.lk
  have e := drop_ix (xs := L0) hl.2.1 (by rw [hl.1.1]; exact hx)
  obtain ⟨C, h0, hC, hlC⟩ := (h.wsl.2 (ix L0 x)).1 (by rw [e]; simp)
  have hlt := (List.getElem?_eq_some_iff.1 hC).1
  rw [clsOf_length] at hlt
  refine ⟨C, h0, hlt, hC, hlC, List.mem_of_getElem? hC, ?_, e⟩
  rw [clsOf_get hlt] at hC; exact (Option.some.inj hC).symm
/-- The first two change places. -/
theorem IN.turn (h : IN n l hd cs watch value level reason T starts A own list kept x L0 K0) {i : Nat} {C C1 : List Int} {A1 : Arena} (hi : i < cs.length) (hC : (clsOf A cs)[i]? = some C) (hf : Fix (.cl i) A own A1 own) (hl : Lies A1 own (.cl i) (cs.getD i rnil)) (hr : aread A1 (cs.getD i rnil) = C1)
    (hp : C1.Perm C) (hs : ∀ a, a ∈ C1.take 2 ↔ a ∈ C.take 2) (hT : ∀ t D, C = t :: D → t ∈ T → ∃ D', C1 = t :: D' ∧ ∀ x, x ∈ D' → x ∈ D) : IN n l hd cs watch value level reason T starts A1 own list kept x L0 K0 ∧ clsOf A1 cs = (clsOf A cs).set i C1 := by
  have hne : ∀ κ, κ ≠ Key.wt l → κ ≠ .cl i → Lies A1 own κ (FF cs watch κ) ∧ aread A1 (FF cs watch κ) = aread A (FF cs watch κ) := fun κ h1 h2 => (h.mo κ h1).other h2 hf
  have e : clsOf A1 cs = (clsOf A cs).set i C1 := by
    apply List.ext_getElem?
    intro k
    rcases Nat.lt_or_ge k cs.length with hk | hk
    · rw [clsOf_get hk]
      by_cases hki : k = i
      · subst hki; rw [hr, get_set_same hC]
      · rw [get_set_other hki (clsOf_get hk)]
        have := (hne (.cl k) (by simp) (by intro e; cases e; exact hki rfl)).2
        simp only [FF] at this; rw [this]
    · rw [List.getElem?_eq_none (by rw [clsOf_length]; exact hk), List.getElem?_eq_none (by rw [List.length_set, clsOf_length]; exact hk)]
  refine ⟨⟨?_, by rw [e]; exact h.cw.set hC hp, fun κ hκ => ?_, h.wl, h.lk.other (by simp) hf, fun k hk => ?_, by rw [e]; exact h.wsl.same hC (hs l), by rw [e]; exact h.q.same hC hs, h.tl, h.st, h.big⟩, e⟩
  · rw [e]
    refine h.ti.turn fun j D hD => ?_
    by_cases hj : j = i
    · subst hj
      rw [hC] at hD; cases hD
      exact ⟨C1, get_set_same hC, hT⟩
    · exact ⟨D, get_set_other hj hD, fun t D' e _ => ⟨D', e, fun x hx => hx⟩⟩
  · by_cases hκi : κ = .cl i
    · subst hκi; exact hl
    · exact (hne κ hκ hκi).1
  · rw [e]
    have : wtOf A1 watch k = wtOf A watch k := (hne (.wt k) (by intro e; cases e; exact hk rfl) (by simp)).2
    rw [this]
    exact (h.ws k hk).same hC (hs k)
/-- The clause stays in the list; the other watched literal is true, or becomes so. -/
theorem IN.stay (h : IN n l hd cs watch value level reason T starts A own list kept x L0 K0) (hx : x < list.n) {A' : Arena} {r' : Raw} (hA : ApR A kept [ix L0 x] A' r') {u : Int} (hu : (∃ R, (clsOf A cs)[(ix L0 x).toNat]? = some (u :: R)))
    {value' level' reason' T' : List Int} (hor : (value' = value ∧ level' = level ∧ reason' = reason ∧ T' = T ∧ u ∈ T) ∨ (value' = setv value u ∧ level' = level.set (av u).toNat starts.length ∧ reason' = reason.set (av u).toNat (ix L0 x) ∧ T' = T ++ [u] ∧ tv T u = 0 ∧ ∀ D, (clsOf A cs)[(ix L0 x).toNat]? = some (u :: D) → ∀ y ∈ D, -y ∈ T)) :
    ∃ own', IN n l hd cs watch value' level' reason' T' starts A' own' list r' (x + 1) L0 (K0 ++ [ix L0 x]) ∧ clsOf A' cs = clsOf A cs := by
  obtain ⟨C, h0, hlt, hC, hlC, hCm, hCe, hdrop⟩ := h.now hx
  obtain ⟨own', hf, hlk⟩ := h.lk.keep hx hA
  obtain ⟨R, hu⟩ := hu
  rw [hC] at hu
  obtain rfl := Option.some.inj hu
  have hne : ∀ κ, κ ≠ Key.wt l → Lies A' own' κ (FF cs watch κ) ∧ aread A' (FF cs watch κ) = aread A (FF cs watch κ) := fun κ h1 => (h.mo κ h1).other h1 hf
  have e : clsOf A' cs = clsOf A cs := by
    apply List.ext_getElem?
    intro k
    rcases Nat.lt_or_ge k cs.length with hk | hk
    · rw [clsOf_get hk, clsOf_get hk]
      have := (hne (.cl k) (by simp)).2
      simp only [FF] at this; rw [this]
    · rw [List.getElem?_eq_none (by rw [clsOf_length]; exact hk), List.getElem?_eq_none (by rw [clsOf_length]; exact hk)]
  have huT' : ∃ p : Nat, T'[p]? = some u ∧ lev starts p ≤ starts.length := by
    rcases hor with ⟨_, _, _, rfl, hu⟩ | ⟨_, _, _, rfl, _⟩
    · obtain ⟨p, hp⟩ := List.getElem?_of_mem hu
      exact ⟨p, hp, lev_le _ _⟩
    · exact ⟨T.length, by simp, lev_le _ _⟩
  have hlevhd : lev starts hd = starts.length := lev_full h.st
  have hTlen : hd + 1 ≤ T.length := (List.getElem?_eq_some_iff.1 h.tl).1
  have hq' : QI (clsOf A cs) T' starts (hd + 1) (fun a i => a = l ∧ i ∈ L0.drop x.toNat) := by
    rcases hor with ⟨_, _, _, rfl, _⟩ | ⟨_, _, _, rfl, _⟩
    · exact h.q
    · exact h.q.push u hTlen
  have htl' : T'[hd]? = some (-l) := by
    rcases hor with ⟨_, _, _, rfl, _⟩ | ⟨_, _, _, rfl, _⟩
    · exact h.tl
    · rw [List.getElem?_append_left (by omega)]; exact h.tl
  have hti' : TI n value' level' reason' T' starts (clsOf A cs) := by
    rcases hor with ⟨rfl, rfl, rfl, rfl, _⟩ | ⟨rfl, rfl, rfl, rfl, g1, g2⟩
    · exact h.ti
    · exact h.ti.push (mem_lits (h.cw _ hCm).2.2.1 (by simp)) g1 (.inl ⟨rfl, h0, R, hC, g2 R hC⟩)
  refine ⟨own', ⟨by rw [e]; exact hti', by rw [e]; exact h.cw, fun κ hκ => (hne κ hκ).1, h.wl, hlk, fun k hk => ?_, ?_, ?_, htl', h.st, h.big⟩, e⟩
  · rw [e]
    have : wtOf A' watch k = wtOf A watch k := (hne (.wt k) (by intro e; cases e; exact hk rfl)).2
    rw [this]; exact h.ws k hk
  · rw [e, List.append_assoc, List.singleton_append, ← hdrop]; exact h.wsl
  · rw [e]
    intro j D a q hD ha hq hlt2
    rcases hq' j D a q hD ha hq hlt2 with ⟨rfl, g⟩ | g
    · rw [hdrop] at g
      rcases List.mem_cons.1 g with g | g
      · have ej : j = (ix L0 x).toNat := by omega
        subst ej
        rw [hC] at hD; cases hD
        obtain ⟨p, hp1, hp2⟩ := huT'
        have eq : q = hd := hti'.pos hq htl'
        subst eq
        exact .inr ⟨u, by simp, p, hp1, by omega⟩
      · exact .inl ⟨rfl, g⟩
    · exact .inr g
/-- The clause looks at another literal. -/
theorem IN.leave (h : IN n l hd cs watch value level reason T starts A own list kept x L0 K0) (hx : x < list.n) {u w : Int} {R : List Int} {j : Nat} (hC : (clsOf A cs)[(ix L0 x).toNat]? = some (u :: l :: R)) (hw : R[j]? = some w) (hw0 : 0 ≤ tv T w)
    {A2 A' : Arena} {own' : Own} {r' : Raw} (hf : Fix (.cl (ix L0 x).toNat) A own A2 own) (hl2 : Lies A2 own (.cl (ix L0 x).toNat) (cs.getD (ix L0 x).toNat rnil)) (hr : aread A2 (cs.getD (ix L0 x).toNat rnil) = u :: w :: R.set j l)
    (hf2 : Fix (.wt w) A2 own A' own') (hl3 : Lies A' own' (.wt w) r') (hr3 : aread A' r' = wtOf A watch w ++ [ix L0 x]) :
    IN n l hd cs (mset watch w r') value level reason T starts A' own' list kept (x + 1) L0 K0 ∧ CP (clsOf A cs) (clsOf A' cs) := by
  obtain ⟨C, h0, hlt, hC', hlC, hCm, hCe, hdrop⟩ := h.now hx
  rw [hC] at hC'
  obtain rfl := Option.some.inj hC'
  have hlf := h.lfalse
  have hwl : w ≠ l := fun e => by rw [e, hlf.2.2] at hw0; omega
  have hnd := (h.cw _ hCm).2.1
  have hwR : w ∈ R := List.mem_of_getElem? hw
  rw [List.nodup_cons, List.nodup_cons] at hnd
  have hul : u ≠ l := fun e => hnd.1 (by rw [e]; simp)
  have huw : u ≠ w := fun e => hnd.1 (by rw [e]; simp [hwR])
  have hp : (u :: w :: R.set j l).Perm (u :: l :: R) := (perm_set hw).cons u
  have hkw : Key.wt w ≠ .wt l := by intro e; cases e; exact hwl rfl
  have hFF : ∀ κ, κ ≠ Key.wt w → FF cs (mset watch w r') κ = FF cs watch κ := fun κ hκ => FF_wt hκ
  have ho : ∀ κ, κ ≠ Key.wt l → κ ≠ .cl (ix L0 x).toNat → κ ≠ .wt w → Lies A' own' κ (FF cs watch κ) ∧ aread A' (FF cs watch κ) = aread A (FF cs watch κ) := fun κ h1 h2 h3 => by
    obtain ⟨g1, g2⟩ := (h.mo κ h1).other h2 hf
    obtain ⟨g3, g4⟩ := g1.other h3 hf2
    exact ⟨g3, g4.trans g2⟩
  obtain ⟨hl4, hr4⟩ := hl2.other (κ' := .cl (ix L0 x).toNat) (by simp) hf2
  have e : clsOf A' cs = (clsOf A cs).set (ix L0 x).toNat (u :: w :: R.set j l) := by
    apply List.ext_getElem?
    intro k
    rcases Nat.lt_or_ge k cs.length with hk | hk
    · rw [clsOf_get hk]
      by_cases hki : k = (ix L0 x).toNat
      · subst hki; rw [hr4, hr, get_set_same hC]
      · rw [get_set_other hki (clsOf_get hk)]
        have := (ho (.cl k) (by simp) (by intro e; cases e; exact hki rfl) (by simp)).2
        simp only [FF] at this; rw [this]
    · rw [List.getElem?_eq_none (by rw [clsOf_length]; exact hk), List.getElem?_eq_none (by rw [List.length_set, clsOf_length]; exact hk)]
  have hnotin : ix L0 x ∉ K0 ++ L0.drop (x + 1).toNat := fun hm => by
    have := h.wsl.1
    rw [hdrop] at this
    rw [List.nodup_append] at this
    rcases List.mem_append.1 hm with hm | hm
    · exact this.2.2 _ hm _ (by simp) rfl
    · exact (List.nodup_cons.1 this.2.1).1 hm
  refine ⟨⟨?_, by rw [e]; exact h.cw.set hC hp, fun κ hκ => ?_, ?_, (h.lk.skip hx).other (by simp) hf |>.other hkw hf2, fun k hk => ?_, ?_, ?_, h.tl, h.st, h.big⟩, by rw [e]; exact CP.set hC hp⟩
  · rw [e]
    refine h.ti.turn fun k D hD => ?_
    by_cases hk : k = (ix L0 x).toNat
    · subst hk
      rw [hC] at hD; cases hD
      refine ⟨_, get_set_same hC, fun t D e _ => ?_⟩
      cases e
      exact ⟨_, rfl, fun y hy => (perm_set hw).mem_iff.1 hy⟩
    · exact ⟨D, get_set_other hk hD, fun t D' e _ => ⟨D', e, fun x hx => hx⟩⟩
  · by_cases h1 : κ = .wt w
    · subst h1; rw [FF_wt']; exact hl3
    · rw [hFF κ h1]
      by_cases h2 : κ = .cl (ix L0 x).toNat
      · subst h2; exact hl4
      · exact (ho κ hκ h2 h1).1
  · rw [mgetD_mset, if_neg hwl]; exact h.wl
  · rw [e]
    by_cases hkw2 : k = w
    · subst hkw2
      have e2 : wtOf A' (mset watch k r') k = wtOf A watch k ++ [ix L0 x] := by unfold wtOf at *; rw [mgetD_mset, if_pos rfl, hr3]
      rw [e2]
      obtain ⟨g1, g2⟩ := h.ws k hk
      have hni : ix L0 x ∉ wtOf A watch k := fun hm => by
        obtain ⟨D, _, hD, hkD⟩ := (g2 _).1 hm
        rw [hC] at hD; cases hD
        simp only [List.take_succ_cons, List.take_zero, List.mem_cons, List.not_mem_nil, or_false] at hkD
        rcases hkD with e | e
        · exact huw e.symm
        · exact hwl e
      refine ⟨List.nodup_append.2 ⟨g1, by simp, fun a ha b hb => by rw [List.mem_singleton.1 hb]; rintro rfl; exact hni ha⟩, fun i => ?_⟩
      rw [List.mem_append, List.mem_singleton, g2 i]
      constructor
      · rintro (⟨D, a0, hD, hkD⟩ | rfl)
        · have hne : i.toNat ≠ (ix L0 x).toNat := fun e => hni ((g2 _).2 ⟨D, h0, by rw [← e]; exact hD, hkD⟩)
          exact ⟨D, a0, get_set_other hne hD, hkD⟩
        · exact ⟨_, h0, get_set_same hC, by simp⟩
      · rintro ⟨D, a0, hD, hkD⟩
        rcases get_set_cases hD with ⟨e, rfl, _⟩ | ⟨_, hD⟩
        · right; omega
        · exact .inl ⟨D, a0, hD, hkD⟩
    · have e2 : wtOf A' (mset watch w r') k = wtOf A watch k := by
        unfold wtOf
        rw [mgetD_mset, if_neg (fun e => hkw2 e.symm)]
        exact (ho (.wt k) (by intro e; cases e; exact hk rfl) (by simp) (by intro e; cases e; exact hkw2 rfl)).2
      rw [e2]
      refine (h.ws k hk).same hC ?_
      simp only [List.take_succ_cons, List.take_zero, List.mem_cons, List.not_mem_nil, or_false]
      constructor
      · rintro (e | e)
        · exact .inl e
        · exact absurd e hkw2
      · rintro (e | e)
        · exact .inl e
        · exact absurd e hk
  · rw [e]
    have hnd2 := h.wsl.1
    rw [hdrop] at hnd2
    refine ⟨?_, fun i => ?_⟩
    · refine hnd2.sublist (List.Sublist.append_left (List.sublist_cons_self _ _) _)
    · have g := h.wsl.2 i
      rw [hdrop] at g
      constructor
      · intro hm
        obtain ⟨D, a0, hD, hlD⟩ := g.1 (by rcases List.mem_append.1 hm with hm | hm <;> simp [hm])
        have hne : i.toNat ≠ (ix L0 x).toNat := fun e => hnotin (by have : i = ix L0 x := by omega
                                                                    rw [← this]; exact hm)
        exact ⟨D, a0, get_set_other hne hD, hlD⟩
      · rintro ⟨D, a0, hD, hlD⟩
        rcases get_set_cases hD with ⟨e, rfl, _⟩ | ⟨hne, hD⟩
        · simp only [List.take_succ_cons, List.take_zero, List.mem_cons, List.not_mem_nil, or_false] at hlD
          rcases hlD with e | e
          · exact absurd e.symm hul
          · exact absurd e.symm hwl
        · have := g.2 ⟨D, a0, hD, hlD⟩
          rcases List.mem_append.1 this with hm | hm
          · exact List.mem_append_left _ hm
          · rcases List.mem_cons.1 hm with rfl | hm
            · exact absurd rfl hne
            · exact List.mem_append_right _ hm
  · rw [e]
    intro k D a q hD ha hq hlt2
    rcases get_set_cases hD with ⟨rfl, rfl, _⟩ | ⟨hne, hD⟩
    · simp only [List.take_succ_cons, List.take_zero, List.mem_cons, List.not_mem_nil, or_false] at ha
      rcases ha with rfl | rfl
      · rcases h.q _ _ a q hC (by simp) hq hlt2 with ⟨e, _⟩ | ⟨b, hb, p, hp1, hp2⟩
        · exact absurd e hul
        · simp only [List.take_succ_cons, List.take_zero, List.mem_cons, List.not_mem_nil, or_false] at hb
          rcases hb with rfl | rfl
          · exact absurd (List.mem_of_getElem? hq) (h.ti.cons (List.mem_of_getElem? hp1))
          · exact absurd (List.mem_of_getElem? hp1) hlf.2.1
      · have := h.ti.tv_neg (List.mem_of_getElem? hq)
        omega
    · rcases h.q k D a q hD ha hq hlt2 with ⟨e, g⟩ | g
      · rw [hdrop] at g
        rcases List.mem_cons.1 g with g | g
        · exact absurd (by omega) hne
        · exact .inl ⟨e, g⟩
      · exact .inr g
end step
end Go.Vc
