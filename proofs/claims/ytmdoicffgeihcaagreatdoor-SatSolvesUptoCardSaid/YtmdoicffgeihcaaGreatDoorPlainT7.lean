/- All that follows, by the watch lists. No program in sight. -/
import Derived.Test.YtmdoicffgeihcaaGreatDoorPlainT6
set_option linter.unusedVariables false
namespace Go.Vc
structure SI (n : Int) (cs : List Raw) (watch : List (Int × Raw)) (value level reason T starts : List Int) (head : Int) (A : Arena) (own : Own) : Prop where
  ti : TI n value level reason T starts (clsOf A cs)
  cw : CW n (clsOf A cs)
  mo : MemO A (FF cs watch) own
  ws : ∀ k, WS (clsOf A cs) (wtOf A watch k) k
  hd : 0 ≤ head ∧ head ≤ T.length
  st : ∀ s ∈ starts, s ≤ head
  big : cs.length ≤ 67108864
abbrev QF (Cl : List (List Int)) (T starts : List Int) (head : Nat) : Prop := QI Cl T starts head (fun _ _ => False)
/-- Of the levels below the last one. -/
def QL (Cl : List (List Int)) (T starts : List Int) : Prop := ∀ (i : Nat) (C : List Int) (a : Int) (q : Nat), Cl[i]? = some C → a ∈ C.take 2 → T[q]? = some (-a) → lev starts q < starts.length → ∃ b ∈ C.take 2, ∃ p : Nat, T[p]? = some b ∧ lev starts p ≤ lev starts q
theorem ws_length {Cl : List (List Int)} {L : List Int} {l : Int} (h : WS Cl L l) : L.length ≤ Cl.length := by
  have h1 : (L.map (· + 1)).Nodup := by
    refine List.Pairwise.map _ (fun a b hab => ?_) h.1
    intro e; omega
  have := nodup_bound Cl.length (L.map (· + 1)) h1 fun x hx => by
    obtain ⟨i, hi, rfl⟩ := List.mem_map.1 hx
    obtain ⟨C, h0, hC, _⟩ := (h.2 i).1 hi
    have := (List.getElem?_eq_some_iff.1 hC).1
    omega
  simpa using this
section
variable {n : Int} {cs : List Raw} {watch : List (Int × Raw)} {value level reason T starts : List Int} {head : Int} {heat : List Unit} {proof : List (Bool × List Int)} {dead : Bool} {A : Arena} {own : Own}
theorem IN.begin (h : SI n cs watch value level reason T starts head A own) (hq : QF (clsOf A cs) T starts head.toNat) (hlt : head < T.length) :
    IN n (-(ix T head)) head.toNat cs watch value level reason T starts A own (mgetD watch (-(ix T head)) rnil) (rhi (mgetD watch (-(ix T head)) rnil) 0) 0 (wtOf A watch (-(ix T head))) [] := by
  have hg : T[head.toNat]? = some (ix T head) := ix_get h.hd.1 hlt
  have htl : T[head.toNat]? = some (-(-(ix T head))) := by rw [Int.neg_neg]; exact hg
  refine ⟨h.ti, h.cw, fun κ _ => h.mo κ, rfl, LK.start (h.mo (.wt _)), fun k _ => h.ws k, by simpa using h.ws _, fun i C a q hC ha hqq hl => ?_, htl, fun s hs => by have := h.st s hs; have := h.hd.1; omega, h.big⟩
  rcases Nat.lt_or_ge q head.toNat with h1 | h1
  · exact .inr ((hq i C a q hC ha hqq h1).resolve_left id)
  · left
    have eq : q = head.toNat := by omega
    subst eq
    rw [hg] at hqq
    have e := Option.some.inj hqq
    have ea : a = -(ix T head) := by omega
    refine ⟨ea, ?_⟩
    simp only [Int.toNat_zero, List.drop_zero]
    rw [← ea]
    exact ((h.ws a).2 i).2 ⟨C, by omega, by simpa using hC, ha⟩
theorem IN.finish {l : Int} {hd : Nat} {list kept : Raw} {x : Int} {L0 K0 : List Int} (h : IN n l hd cs watch value level reason T starts A own list kept x L0 K0) (hx : ¬ x < list.n) :
    SI n cs (mset watch l kept) value level reason T starts ((hd : Int) + 1) A own ∧ QF (clsOf A cs) T starts (hd + 1) := by
  have hl := h.lk
  have hd0 : L0.drop x.toNat = [] := drop_end hl.2.1 (by rw [hl.1.1]; exact hx)
  have hlt := (List.getElem?_eq_some_iff.1 h.tl).1
  obtain ⟨g1, g2⟩ := hl.lies
  refine ⟨⟨h.ti, h.cw, fun κ => ?_, fun k => ?_, ⟨by omega, by omega⟩, fun s hs => by have := h.st s hs; omega, h.big⟩, fun i C a q hC ha hq hlt => ?_⟩
  · by_cases e : κ = .wt l
    · subst e; rw [FF_wt']; exact g1
    · rw [FF_wt e]; exact h.mo κ e
  · by_cases e : k = l
    · subst e
      have : wtOf A (mset watch k kept) k = K0 := by unfold wtOf; rw [mgetD_mset, if_pos rfl, g2]
      rw [this]
      have := h.wsl
      rwa [hd0, List.append_nil] at this
    · have : wtOf A (mset watch l kept) k = wtOf A watch k := by unfold wtOf; rw [mgetD_mset, if_neg (fun e' => e e'.symm)]
      rw [this]; exact h.ws k e
  · rcases h.q i C a q hC ha hq hlt with ⟨_, g⟩ | g
    · rw [hd0] at g; cases g
    · exact .inr g
/-- A conflict: the rest of the list is kept as it is. -/
theorem IN.conflict {l : Int} {hd : Nat} {list kept : Raw} {x : Int} {L0 K0 : List Int} (h : IN n l hd cs watch value level reason T starts A own list kept x L0 K0) (hx : x < list.n) {A' A'' : Arena} {r' r'' : Raw} (hA : ApR A kept [ix L0 x] A' r')
    (hA2 : ApR A' r' (aread A' (rlo list (x + 1))) A'' r'') : (∃ own'', SI n cs (mset watch l r'') value level reason T starts ((hd : Int) + 1) A'' own'') ∧ QL (clsOf A'' cs) T starts ∧ clsOf A'' cs = clsOf A cs := by
  obtain ⟨C, h0, hlt, hC, hlC, hCm, hCe, hdrop⟩ := h.now hx
  obtain ⟨own', hf, hlk⟩ := h.lk.keep hx hA
  obtain ⟨_, _, e3⟩ := LK.rest hlk h.lk.2.1 hx
  rw [e3] at hA2
  obtain ⟨g1, g2⟩ := hlk.lies
  obtain ⟨own'', hf2, g3, g4⟩ := g1.append hA2
  have hne : ∀ κ, κ ≠ Key.wt l → Lies A'' own'' κ (FF cs watch κ) ∧ aread A'' (FF cs watch κ) = aread A (FF cs watch κ) := fun κ h1 => (h.mo κ h1).other h1 (hf.trans hf2)
  have e : clsOf A'' cs = clsOf A cs := by
    apply List.ext_getElem?
    intro k
    rcases Nat.lt_or_ge k cs.length with hk | hk
    · rw [clsOf_get hk, clsOf_get hk]
      have := (hne (.cl k) (by simp)).2
      simp only [FF] at this; rw [this]
    · rw [List.getElem?_eq_none (by rw [clsOf_length]; exact hk), List.getElem?_eq_none (by rw [clsOf_length]; exact hk)]
  have hTl := (List.getElem?_eq_some_iff.1 h.tl).1
  refine ⟨⟨own'', by rw [e]; exact h.ti, by rw [e]; exact h.cw, fun κ => ?_, fun k => ?_, ⟨by omega, by omega⟩, fun s hs => by have := h.st s hs; omega, h.big⟩, fun i C a q hC ha hq hlq => ?_, e⟩
  · by_cases e : κ = .wt l
    · subst e; rw [FF_wt']; exact g3
    · rw [FF_wt e]; exact (hne κ e).1
  · rw [e]
    by_cases ek : k = l
    · subst ek
      have : wtOf A'' (mset watch k r'') k = K0 ++ L0.drop x.toNat := by unfold wtOf; rw [mgetD_mset, if_pos rfl, g4, g2, hdrop]; simp
      rw [this]; exact h.wsl
    · have : wtOf A'' (mset watch l r'') k = wtOf A watch k := by
        unfold wtOf; rw [mgetD_mset, if_neg (fun e' => ek e'.symm)]
        exact (hne (.wt k) (by intro e; cases e; exact ek rfl)).2
      rw [this]; exact h.ws k ek
  · rw [e] at hC
    have hlevhd : lev starts hd = starts.length := lev_full h.st
    have hq1 : q < hd + 1 := by
      rcases Nat.lt_or_ge q (hd + 1) with h1 | h1
      · exact h1
      · exfalso
        have := lev_mono (starts := starts) (p := hd) (q := q) (by omega)
        omega
    rcases h.q i C a q hC ha hq hq1 with ⟨rfl, _⟩ | g
    · have : q = hd := h.ti.pos hq h.tl
      subst this; omega
    · exact g
theorem sfollow_ok (h : SI n cs watch value level reason T starts head A own) (hq : QF (clsOf A cs) T starts head.toNat) {Q : Int → List (Int × Raw) → List Int → List Int → List Int → List Int → Int → Arena → Prop}
    (h1 : ∀ own' watch' value' level' reason' T' A', SI n cs watch' value' level' reason' T' starts (T'.length : Int) A' own' → QF (clsOf A' cs) T' starts T'.length → CP (clsOf A cs) (clsOf A' cs) → (∃ ext, T' = T ++ ext) → Q (-1) watch' value' level' reason' T' (T'.length : Int) A')
    (h2 : ∀ own' (i : Nat) watch' value' level' reason' T' head' A' C, SI n cs watch' value' level' reason' T' starts head' A' own' → QL (clsOf A' cs) T' starts → CP (clsOf A cs) (clsOf A' cs) → (∃ ext, T' = T ++ ext) →
      (clsOf A' cs)[i]? = some C → (∀ y ∈ C, -y ∈ T') → (∃ y ∈ C, ∃ p : Nat, T'[p]? = some (-y) ∧ lev starts p = starts.length) → Q (i : Int) watch' value' level' reason' T' head' A') :
    V_sfollow n cs watch value level reason T starts head heat proof dead A Q := by
  refine ⟨fun s => ∃ own', SI n cs s.1 s.2.1 s.2.2.1 s.2.2.2.1 s.2.2.2.2.1 starts s.2.2.2.2.2.1 s.2.2.2.2.2.2 own' ∧ QF (clsOf s.2.2.2.2.2.2 cs) s.2.2.2.2.1 starts s.2.2.2.2.2.1.toNat ∧ CP (clsOf A cs) (clsOf s.2.2.2.2.2.2 cs) ∧ ∃ ext, s.2.2.2.2.1 = T ++ ext,
    fun s => (n + 1 - s.2.2.2.2.2.1).toNat, ⟨own, h, hq, CP.refl _, [], by simp⟩, ?_⟩
  rintro ⟨wa, va, le, re, T1, hd, A1⟩ ⟨o1, s1, q1, c1, ext1, hT1⟩
  dsimp only at s1 q1 c1 hT1 ⊢
  intro _
  have hlen := s1.ti.len
  have hn := s1.ti.hn
  have hd1 := s1.hd
  refine ⟨fun hlt => ?_, fun hge => ?_⟩
  rotate_left
  · have e : hd = (T1.length : Int) := by have := s1.hd; omega
    subst e
    exact h1 o1 wa va le re T1 A1 s1 (by simpa using q1) c1 ⟨ext1, hT1⟩
  have hin0 := IN.begin s1 q1 hlt
  have hmemT : ix T1 hd ∈ T1 := ix_mem s1.hd.1 hlt
  have hlitT := s1.ti.lits _ hmemT
  have hi64 := s1.ti.i64 hlitT
  refine ⟨⟨s1.hd.1, hlt⟩, fun _ => ⟨hi64.1, by unfold I64; omega, ⟨by omega, by omega⟩, ?_⟩⟩
  have hkl := (LK.start (s1.mo (.wt (-(ix T1 hd))))).1
  have hL0 : wtOf A1 wa (-(ix T1 hd)) = aread A1 (mgetD wa (-(ix T1 hd)) rnil) := rfl
  have hdn : ((hd.toNat : Nat) : Int) = hd := by have := s1.hd.1; omega
  generalize hl : -(ix T1 hd) = l at *
  generalize hlist : mgetD wa l rnil = list at *
  generalize wtOf A1 wa l = L0 at *
  have hbound : list.n ≤ 67108864 := by
    have h3 := ws_length hin0.wsl
    have h4 := hin0.lk.1.1
    have h5 := hin0.big
    simp only [Int.toNat_zero, List.drop_zero, List.nil_append] at h3
    rw [clsOf_length] at h3; omega
  refine ⟨by unfold I64; omega, fun s => ∃ own' K0, IN n l hd.toNat cs s.1 s.2.1 s.2.2.1 s.2.2.2.1 s.2.2.2.2.1 starts s.2.2.2.2.2.1 own' list s.2.2.2.2.2.2.1 s.2.2.2.2.2.2.2 L0 K0 ∧ CP (clsOf A cs) (clsOf s.2.2.2.2.2.1 cs) ∧ ∃ ext, s.2.2.2.2.1 = T ++ ext,
    fun s => ((list.n : Int) - s.2.2.2.2.2.2.2).toNat, ⟨o1, [], hin0, c1, ext1, hT1⟩, ?_⟩
  rintro ⟨w2, v2, l2, r2, T2, A2, kept, x⟩ ⟨o2, K0, s2, c2, ext2, hT2⟩
  dsimp only at s2 c2 hT2 ⊢
  refine ⟨fun hx => ?_, fun hx => ?_⟩
  rotate_left
  · obtain ⟨g1, g2⟩ := s2.finish hx
    rw [hdn] at g1
    exact ⟨⟨o2, g1, by rw [show (hd + 1).toNat = hd.toNat + 1 by omega]; exact g2, c2, ext2, hT2⟩, by first | omega | (dsimp only; omega)⟩
  have hx0 := s2.lk.2.1
  refine ⟨fun s => ∃ own' K0, IN n l hd.toNat cs s.1 s.2.1 s.2.2.1 s.2.2.2.1 s.2.2.2.2.1 starts s.2.2.2.2.2.1 own' list s.2.2.2.2.2.2 (x + 1) L0 K0 ∧ CP (clsOf A cs) (clsOf s.2.2.2.2.2.1 cs) ∧ ∃ ext, s.2.2.2.2.1 = T ++ ext, ?_, ?_⟩
  · rintro ⟨w3, v3, l3, r3, T3, A3, k3⟩ ⟨o3, K3, s3, c3, ext3, hT3⟩
    exact ⟨by unfold I64; omega, ⟨o3, K3, s3, c3, ext3, hT3⟩, by first | omega | (dsimp only; omega)⟩
  obtain ⟨hin, hrd, he⟩ := s2.lk.read hx
  obtain ⟨C, h0, hlt2, hC, hlC, hCm, hCe, hdrop⟩ := s2.now hx
  refine ⟨hin, hrd, ?_⟩
  rw [he]
  have hixc : ix cs (ix L0 x) = cs.getD (ix L0 x).toNat rnil := rfl
  refine ⟨⟨h0, by omega⟩, ?_⟩
  rw [hixc]
  have hlies := s2.mo (.cl (ix L0 x).toNat) (by simp)
  simp only [FF] at hlies
  have hcw := s2.cw C hCm
  have hclen := hlies.length
  rw [← hCe] at hclen
  have hlf := s2.lfalse
  have hllit := s2.llit
  generalize hcr : cs.getD (ix L0 x).toNat rnil = c at *
  generalize hi : ix L0 x = i at *
  -- behind the change of places
  refine ⟨fun A3 => IN n l hd.toNat cs w2 v2 l2 r2 T2 starts A3 o2 list kept x L0 K0 ∧ CP (clsOf A cs) (clsOf A3 cs) ∧ ((clsOf A3 cs)[i.toNat]? = some [l] ∨ ∃ u R, (clsOf A3 cs)[i.toNat]? = some (u :: l :: R)), ?_, ?_⟩
  · rintro A3 ⟨s3, c3, hform⟩
    have hlies3 := s3.mo (.cl i.toNat) (by simp)
    simp only [FF, hcr] at hlies3
    have hC3 : (clsOf A3 cs)[i.toNat]? = some (aread A3 c) := by rw [← hcr]; exact clsOf_get hlt2
    have hcw3 := s3.cw _ (List.mem_of_getElem? hC3)
    have hclen3 := hlies3.length
    have hpos : 0 < c.n := by
      rw [← hclen3]
      cases hh : aread A3 c with
      | nil => exact absurd hh hcw3.1
      | cons a b => simp
    have hm : ∀ w, w ≠ l → Lies A3 o2 (.wt w) (mgetD w2 w rnil) ∧ (aread A3 (mgetD w2 w rnil)).length ≤ 134217728 := fun w hw => by
      refine ⟨s3.mo (.wt w) (by intro e; cases e; exact hw rfl), ?_⟩
      have := ws_length (s3.ws w hw)
      rw [clsOf_length] at this
      have := s3.big
      unfold wtOf at *; omega
    -- what is done where the clause stays
    have stay : ∀ (P : 0 < tv T2 (ix (aread A3 c) 0) ∨ ∀ (j : Nat) y, 2 ≤ j → (aread A3 c)[j]? = some y → tv T2 y < 0), ApOk A3 kept ∧ Room (kept.n + [i].length) 8 ∧ (∀ (A_3819 : Arena) (r_3820 : Raw), ApR A3 kept [i] A_3819 r_3820 → InR c 0 ∧ RdOk A_3819 c 0 ∧
        V_of n cs w2 v2 l2 r2 T2 starts (hd + 1) heat proof dead A_3819 (ag A_3819 c 0) fun r_3827 =>
        (r_3827 = 0 → InR c 0 ∧ RdOk A_3819 c 0 ∧ V_set n cs w2 v2 l2 r2 T2 starts (hd + 1) heat proof dead A_3819 (ag A_3819 c 0) i fun c_3834 c_3838 c_3842 c_3846 =>
          ∃ own' K0, IN n l hd.toNat cs w2 c_3834 c_3838 c_3842 c_3846 starts A_3819 own' list r_3820 (x + 1) L0 K0 ∧ CP (clsOf A cs) (clsOf A_3819 cs) ∧ ∃ ext, c_3846 = T ++ ext) ∧
        (¬ (r_3827 = 0) → (r_3827 = (-1) → I64 (x + 1) ∧ ((0 : Int) ≤ (x + 1) ∧ (x + 1) ≤ (list.n : Int)) ∧ SrcOk A_3819 (rlo list (x + 1)) ∧ ApOk A_3819 r_3820 ∧ Room (r_3820.n + (aread A_3819 (rlo list (x + 1))).length) 8 ∧
          (∀ (A_3862 : Arena) (r_3863 : Raw), ApR A_3819 r_3820 (aread A_3819 (rlo list (x + 1))) A_3862 r_3863 → Q i (mset w2 l r_3863) v2 l2 r2 T2 (hd + 1) A_3862)) ∧
         (¬ (r_3827 = (-1)) → ∃ own' K0, IN n l hd.toNat cs w2 v2 l2 r2 T2 starts A_3819 own' list r_3820 (x + 1) L0 K0 ∧ CP (clsOf A cs) (clsOf A_3819 cs) ∧ ∃ ext, T2 = T ++ ext))) := by
      intro P
      have hkn : (kept.n : Int) ≤ 67108864 := by
        have h3 := ws_length s3.wsl
        have h4 := s3.lk.lies.1.length
        rw [s3.lk.lies.2] at h4
        rw [clsOf_length, List.length_append] at h3
        have := s3.big; omega
      refine ⟨s3.lk.lies.1.apok, ⟨by rw [List.length_singleton]; omega, by rw [List.length_singleton]; unfold maxLen; omega⟩, fun A4 r4 hA => ?_⟩
      obtain ⟨o4, hf4, hlk4⟩ := s3.lk.keep hx hA
      obtain ⟨hlies4, hr4⟩ := hlies3.other (κ' := .cl i.toNat) (by simp) hf4
      obtain ⟨g1, g2, g3⟩ := hlies4.rd (i := 0) (by omega) (by omega)
      rw [hr4] at g3
      have hmem0 : ix (aread A3 c) 0 ∈ aread A3 c := ix_mem (by omega) (by omega)
      have hlit0 := mem_lits hcw3.2.2.1 hmem0
      refine ⟨g1, g2, ?_⟩
      rw [g3]
      obtain ⟨D, hD⟩ : ∃ D, aread A3 c = ix (aread A3 c) 0 :: D := by
        cases hh : aread A3 c with
        | nil => exact absurd hh hcw3.1
        | cons a b => exact ⟨b, rfl⟩
      generalize hu : ix (aread A3 c) 0 = u at *
      have hCu : (clsOf A3 cs)[i.toNat]? = some (u :: D) := by rw [hC3, hD]
      have hDf : (∀ (j : Nat) y, 2 ≤ j → (aread A3 c)[j]? = some y → tv T2 y < 0) → ∀ y ∈ D, -y ∈ T2 := fun hall y hy => by
        rcases hform with e | ⟨u', R, e⟩
        · rw [hCu] at e; cases e; cases hy
        · rw [hCu] at e
          have e2 := Option.some.inj e
          obtain ⟨rfl, rfl⟩ := List.cons.inj e2
          rcases List.mem_cons.1 hy with rfl | hy
          · exact hlf.1
          · obtain ⟨j, hj⟩ := List.getElem?_of_mem hy
            exact tv_lt (hall (j + 2) y (by omega) (by rw [hD]; simpa using hj))
      refine of_ok s3.ti hlit0 ⟨fun hz => ⟨g1, g2, ?_⟩, fun hnz => ⟨fun hm1 => ?_, fun hnm1 => ?_⟩⟩
      · have P' := P.resolve_left (by omega)
        refine set_ok s3.ti hlit0 ?_
        obtain ⟨own', s4, e4⟩ := s3.stay hx (by rw [hi]; exact hA) (u := u) ⟨D, by rw [hi]; exact hCu⟩ (.inr ⟨rfl, rfl, rfl, rfl, hz, fun D' hD' => by rw [hi, hCu] at hD'; cases hD'; exact hDf P'⟩)
        rw [hi] at s4
        exact ⟨own', _, s4, by rw [e4]; exact c3, ext2 ++ [u], by rw [hT2]; simp⟩
      · have P' := P.resolve_left (by omega)
        obtain ⟨k1, k2, k3⟩ := LK.rest hlk4 hx0 hx
        obtain ⟨k4, k5⟩ := hlk4.lies
        have k6 := k4.length
        rw [k5, List.length_append, List.length_singleton] at k6
        have k7 : (K0 ++ L0.drop x.toNat).length ≤ 67108864 := by
          have := ws_length s3.wsl
          rw [clsOf_length] at this
          have := s3.big; omega
        rw [hdrop, List.length_append, List.length_cons] at k7
        refine ⟨by unfold I64; omega, k1, k2, k4.apok, ⟨by rw [k3]; omega, by rw [k3]; unfold maxLen; omega⟩, fun A5 r5 hA5 => ?_⟩
        obtain ⟨⟨own'', t1⟩, t2, t3⟩ := s3.conflict hx (by rw [hi]; exact hA) hA5
        rw [hdn] at t1
        have hfinal := h2 own'' i.toNat _ _ _ _ _ _ _ (u :: D) t1 t2 (by rw [t3]; exact c3) ⟨ext2, hT2⟩ (by rw [t3]; exact hCu) (fun y hy => by
          rcases List.mem_cons.1 hy with rfl | hy
          · exact tv_lt (by omega)
          · exact hDf P' y hy) (by
          refine ⟨l, ?_, hd.toNat, s3.tl, lev_full s3.st⟩
          rcases hform with e | ⟨u', R, e⟩
          · rw [hCu] at e; rw [Option.some.inj e]; simp
          · rw [hCu] at e; rw [Option.some.inj e]; simp)
        have hii : ((i.toNat : Nat) : Int) = i := by omega
        rw [hii] at hfinal; exact hfinal
      · have hup : u ∈ T2 := by
          rcases tv_cases T2 u with ⟨_, hh⟩ | ⟨hh, _⟩ | ⟨hh, _⟩
          · exact hh
          · exact absurd hh hnm1
          · exact absurd hh hnz
        obtain ⟨own', s4, e4⟩ := s3.stay hx (by rw [hi]; exact hA) (u := u) ⟨D, by rw [hi]; exact hCu⟩ (.inl ⟨rfl, rfl, rfl, rfl, hup⟩)
        rw [hi] at s4
        exact ⟨own', _, s4, by rw [e4]; exact c3, ext2, hT2⟩
    refine move_ok s3.ti hlies3 hpos hcw3.2.2.1 (by rw [← hclen3]; exact hcw3.2.2.2) hm (by rw [hlf.2.2]; omega) (fun hp => ⟨fun e => (by cases e), fun _ => stay (.inl hp)⟩) (fun _ hall => ⟨fun e => (by cases e), fun _ => stay (.inr hall)⟩) ?_
    intro hn0 k w A4 A5 own' r' hk2 hkw hw0 hf hl4 hr4 hf5 hl5 hr5
    refine ⟨fun _ => ?_, fun e => (by cases e)⟩
    rcases hform with e | ⟨u, R, e⟩
    · rw [hC3] at e
      rw [Option.some.inj e] at hkw
      have := (List.getElem?_eq_some_iff.1 hkw).1
      simp at this; omega
    · rw [hC3] at e
      have e2 := Option.some.inj e
      rw [e2] at hkw hr4
      obtain ⟨j, rfl⟩ : ∃ j, k = j + 2 := ⟨k - 2, by omega⟩
      have hkw' : R[j]? = some w := by simpa using hkw
      have e3 : ((u :: l :: R).set 1 w).set (j + 2) (ix (u :: l :: R) 1) = u :: w :: R.set j l := by simp [ix]
      rw [e3] at hr4
      obtain ⟨s5, c5⟩ := s3.leave hx (by rw [hi, hC3, e2]) hkw' hw0 (by rw [hi]; exact hf) (by rw [hi, hcr]; exact hl4) (by rw [hi, hcr]; exact hr4) hf5 hl5 (by rw [hi]; exact hr5)
      exact ⟨own', K0, s5, c3.trans c5, ext2, hT2⟩
  · -- the change of places
    have hpos : 0 < c.n := by
      rw [← hclen]
      cases hh : C with
      | nil => exact absurd hh hcw.1
      | cons a b => simp
    refine ⟨fun b => (b = true → 1 < c.n ∧ ix C 0 = l) ∧ (b = false → ¬ (1 < c.n ∧ ix C 0 = l)), ?_, by unfold I64; have := hcw.2.2.2; omega, fun h1n => ?_, fun h1n => ⟨fun e => (by cases e), fun _ hh => h1n (by omega)⟩⟩
    · rintro b ⟨hb1, hb2⟩
      refine ⟨fun e => ?_, fun e => ?_⟩
      · obtain ⟨h1n, hl0⟩ := hb1 e
        obtain ⟨a1, b1, _⟩ := hlies.rd (i := 1) (by omega) (by omega)
        obtain ⟨a0, b0, _⟩ := hlies.rd (i := 0) (by omega) (by omega)
        obtain ⟨f1, f2, f3, f4⟩ := swap_lies hlies h1n
        obtain ⟨u, R, hCu⟩ : ∃ u R, C = l :: u :: R := by
          match C, hl0, hclen with
          | [], _, hc0 => simp at hc0; omega
          | [a], _, hc0 => simp at hc0; omega
          | a :: b :: R, hl0, _ => exact ⟨b, R, by rw [show a = l from hl0]⟩
        rw [← hCe, hCu] at f3
        have e3 : ((l :: u :: R).set 0 (ix (l :: u :: R) 1)).set 1 (ix (l :: u :: R) 0) = u :: l :: R := by simp [ix]
        rw [e3] at f3
        rw [hCu] at hC
        obtain ⟨s3, e4⟩ := s2.turn hlt2 hC f1 (by rw [hcr]; exact f2) (by rw [hcr]; exact f3) (List.Perm.swap _ _ _) (fun a => by simp [or_comm]) (fun t D e ht => by cases e; exact absurd ht hlf.2.1)
        refine ⟨a1, b1, a0, b0, a0, b0, a1, f4, s3, ?_, .inr ⟨u, R, by rw [e4]; exact get_set_same hC⟩⟩
        rw [e4]; exact c2.trans (CP.set hC (List.Perm.swap _ _ _))
      · refine ⟨s2, c2, ?_⟩
        have hno := hb2 e
        match C, hC, hlC, hclen, hno with
        | [a], hC, hlC, _, _ => left; simp at hlC; rw [hC, hlC]
        | a :: b :: R, hC, hlC, hc0, hno =>
          right
          simp only [List.take_succ_cons, List.take_zero, List.mem_cons, List.not_mem_nil, or_false] at hlC
          rcases hlC with rfl | rfl
          · exfalso; exact hno ⟨by simp at hc0; omega, rfl⟩
          · exact ⟨a, R, hC⟩
        | [], hC, hlC, _, _ => simp at hlC
    · obtain ⟨a0, b0, e0⟩ := hlies.rd (i := 0) (by omega) (by omega)
      rw [← hCe] at e0
      refine ⟨a0, b0, fun e => ⟨by omega, ?_⟩, fun e hh => ?_⟩
      · rw [← e0]; exact of_decide_eq_true e
      · rw [← e0] at hh; exact (of_decide_eq_false e) hh.2
end
end Go.Vc
