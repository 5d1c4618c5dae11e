/- One conflict: what is learned goes in, and the search goes on. No program in sight. -/
import Derived.Test.YtmdoicffgeihcaaGreatDoorPlainT14
set_option linter.unusedVariables false
namespace Go.Vc
section
variable {n : Int} {F : List (List Int)} {S : List Int} {T starts : List Int} {heat : List Unit} {proof : List (Bool × List Int)} {lines : List (List Int)}
variable {cs : List Raw} {watch : List (Int × Raw)} {value level reason : List Int} {head : Int} {dead : Bool} {A : Arena} {own : Own}
/-- A run's state at the head of its loop. -/
def RS (n : Int) (F : List (List Int)) (S : List Int) (cs : List Raw) (watch : List (Int × Raw)) (value level reason T starts : List Int) (head : Int) (heat : List Unit) (proof : List (Bool × List Int)) (A : Arena) : Prop :=
  ∃ own lines, SI n cs watch value level reason T starts head A own ∧ QF (clsOf A cs) T starts head.toNat ∧ RB n F S (clsOf A cs) T starts heat proof lines
theorem conflict_ok (hS : SI n cs watch value level reason T starts head A own) (hQL : QL (clsOf A cs) T starts) (hB : RB n F S (clsOf A cs) T starts heat proof lines) {i : Nat} {C : List Int} (hi : (clsOf A cs)[i]? = some C) (hf : ∀ y ∈ C, -y ∈ T)
    (hcur : ∃ y ∈ C, ∃ q : Nat, T[q]? = some (-y) ∧ lev starts q = starts.length) (hst : starts ≠ []) {X : (List Raw) × (List (Int × Raw)) × List Int × List Int × List Int × List Int × List Int × Int × (List Unit) × (List (Bool × List Int)) × Arena → Prop}
    (hX : ∀ cs2 watch2 value2 level2 reason2 T2 starts2 head2 heat2 proof2 A2, RS n F S cs2 watch2 value2 level2 reason2 T2 starts2 head2 heat2 proof2 A2 → (T2.length : Int) ≤ n → bw n.toNat starts T.length < bw n.toNat starts2 T2.length → X (cs2, watch2, value2, level2, reason2, T2, starts2, head2, heat2, proof2, A2)) :
    V_learn n cs watch value level reason T starts head heat proof dead A (i : Int) fun r_4718 r_4723 c_4725 =>
      V_CloneI r_4718 fun r_4746 =>
      Room (proof.length + ([(false, r_4746)]).length) 32 ∧
      V_back n cs watch value level reason T starts head c_4725 (proof ++ ([(false, r_4746)])) dead A r_4723 fun c_4773 c_4777 c_4781 c_4785 =>
      ∀ (A_4791 : Arena) (r_4792 : Raw), AbR A r_4718 A_4791 r_4792 →
      V_keep n cs watch c_4773 level reason c_4777 c_4781 c_4785 c_4725 (proof ++ ([(false, r_4746)])) dead A_4791 r_4792 fun c_4796 m_4800 A_4803 =>
      InR r_4792 0 ∧
      RdOk A_4803 r_4792 0 ∧
      (Len c_4796 →
      I64 ((c_4796.length : Int) - 1) ∧
      V_set n c_4796 m_4800 c_4773 level reason c_4777 c_4781 c_4785 c_4725 (proof ++ ([(false, r_4746)])) dead A_4803 (ag A_4803 r_4792 0) ((c_4796.length : Int) - 1) fun c_4834 c_4838 c_4842 c_4846 =>
      X (c_4796, m_4800, c_4834, c_4838, c_4842, c_4846, c_4781, c_4785, c_4725, (proof ++ ([(false, r_4746)])), A_4803)) := by
  have ht := hS.ti
  have hn := ht.hn
  have hTn := ht.len
  have hll := bw_top (starts := starts) hn hTn
  have hcn := hB.cn
  have hcl := hB.cl
  rw [clsOf_length] at hcl
  have hbig : cs.length < 67108864 := by omega
  refine learn_ok hS hB.ri hB.hh hi hf hcur hst fun P O lv heat' hheat hP hO hOnd hrup hlv0 hlv1 hOnil hOcons => ?_
  obtain ⟨qP, hqP, hlP⟩ := hP
  obtain ⟨k, rfl⟩ := Int.eq_ofNat_of_zero_le hlv0
  have hk : starts[k]? = some (starts[k]'(by omega)) := List.getElem?_eq_getElem _
  generalize starts[k]'(by omega) = s at hk
  have hsb := ht.sb s (List.mem_of_getElem? hk)
  have hkl := (List.getElem?_eq_some_iff.1 hk).1
  have hPl : isLit n P = true := ht.lits P (List.mem_of_getElem? hqP)
  have hPq : s ≤ (qP : Int) := by
    rcases (by omega : (qP : Int) < s ∨ s ≤ (qP : Int)) with h | h
    · have := (lev_at ht.asc hk (p := qP)).1 h; omega
    · exact h
  have hOlit : ∀ y ∈ O, isLit n y = true := fun y hy => by
    obtain ⟨q, hq, _⟩ := hO y hy
    have := lit_neg (ht.lits _ (List.mem_of_getElem? hq))
    rwa [Int.neg_neg] at this
  have hOlen : O.length ≤ n.toNat := by
    have := nodup_bound n.toNat (O.map av) hOnd fun x hx => by
      obtain ⟨y, hy, rfl⟩ := List.mem_map.1 hx
      have := lit_av ht.okn (hOlit y hy)
      omega
    simpa using this
  have hOT : ∀ y ∈ O, ∃ q : Nat, (T.take s.toNat)[q]? = some (-y) := fun y hy => by
    obtain ⟨q, hq, _, hl⟩ := hO y hy
    have := (lev_at ht.asc hk (p := q)).2 (by omega)
    exact ⟨q, by rw [List.getElem?_take_of_lt (by omega)]; exact hq⟩
  have hPT : P ∉ T.take s.toNat := fun hm => by
    obtain ⟨q, hq, hTq⟩ := mem_take_pos hm
    have := ht.pos hTq hqP
    omega
  have hPT2 : -P ∉ T.take s.toNat := fun hm => ht.cons (List.mem_of_getElem? hqP) (List.mem_of_mem_take hm)
  have hPO : -P ∉ O := fun hm => by
    obtain ⟨q, hq⟩ := hOT _ hm
    rw [Int.neg_neg] at hq
    exact hPT (List.mem_of_getElem? hq)
  have hC1nd : (-P :: O).Nodup := List.nodup_cons.2 ⟨hPO, nodup_of_map hOnd⟩
  have hC1lit : litsOk n (-P :: O) = true := List.all_eq_true.2 fun x hx => by
    rcases List.mem_cons.1 hx with rfl | hx
    · exact lit_neg hPl
    · exact hOlit x hx
  have hC1len : (-P :: O).length ≤ 25 := by simp; omega
  have hC1l24 : (-P :: O).length ≤ 24 := by
    have h1 : (P :: O).length ≤ n.toNat := by
      have := nodup_bound n.toNat ((P :: O).map av) (by
        rw [List.map_cons, List.nodup_cons]
        refine ⟨fun hm => ?_, hOnd⟩
        obtain ⟨y, hy, hav⟩ := List.mem_map.1 hm
        obtain ⟨q, hq⟩ := hOT y hy
        rcases av_eq hav with e | e
        · rw [e] at hq; exact hPT2 (List.mem_of_getElem? hq)
        · rw [e, Int.neg_neg] at hq; exact hPT (List.mem_of_getElem? hq)) fun x hx => by
        obtain ⟨y, hy, rfl⟩ := List.mem_map.1 hx
        have hyl : isLit n y = true := by
          rcases List.mem_cons.1 hy with rfl | hy
          · exact hPl
          · exact hOlit y hy
        have := lit_av ht.okn hyl
        omega
      simpa using this
    simp at h1 ⊢; omega
  refine CloneI_ok (by unfold Fits; omega) ⟨?_, ?_⟩
  · rw [hB.pr]
    rw [List.length_map, List.length_singleton]
    exact ⟨by omega, by unfold maxLen; omega⟩
  refine back_ok ht hk fun value' hv hval A1 r hA => ?_
  have hSb := hS.back hk hv hval
  have hQb := QL.back ht hQL hk (T.take s.toNat).length
  obtain ⟨o1, f1, l1, e1⟩ := Lies.absorb (own := own) (κ := .cl cs.length) hA
  have hmo1 : MemO A1 (FF (cs ++ [r]) watch) o1 := hS.mo.fix f1 (fun κ hκ => FF_cl hκ) (by rw [FF_cl']; exact l1)
  have hcls1 : clsOf A1 cs = clsOf A cs := by
    apply List.ext_getElem?
    intro k
    rcases Nat.lt_or_ge k cs.length with hk | hk
    · rw [clsOf_get hk, clsOf_get hk]
      have := ((hS.mo (.cl k)).other (by intro e; cases e; omega) f1).2
      simp only [FF] at this; rw [this]
    · rw [List.getElem?_eq_none (by rw [clsOf_length]; exact hk), List.getElem?_eq_none (by rw [clsOf_length]; exact hk)]
  have hwt1 : ∀ k, wtOf A1 watch k = wtOf A watch k := fun k => ((hS.mo (.wt k)).other (by simp) f1).2
  refine keep_ok hmo1 e1 (fun k => by rw [hcls1, hwt1]; exact hS.ws k) hC1nd hbig (by omega) fun o2 w2 A2 m2 c2 v2 => ?_
  rw [hcls1] at c2 v2
  have hS2 : SI n (cs ++ [r]) w2 value' level reason (T.take s.toNat) (starts.take k) ((T.take s.toNat).length : Int) A2 o2 := hSb.join hbig m2 c2 v2 ⟨by simp, hC1nd, hC1lit, by omega⟩
  have hl2 := m2 (.cl cs.length)
  rw [FF_cl'] at hl2
  have hr2 : aread A2 r = -P :: O := by
    have := c2
    rw [clsOf_snoc] at this
    have := List.append_inj_right' this rfl
    simpa using this
  have hrn := hl2.length
  rw [hr2] at hrn
  obtain ⟨g1, g2, g3⟩ := hl2.rd (i := 0) (by omega) (by simp at hrn; omega)
  rw [hr2] at g3
  have g3' : ag A2 r 0 = -P := by rw [g3]; rfl
  have hlast : (clsOf A2 (cs ++ [r]))[cs.length]? = some (-P :: O) := by
    have hlc : (clsOf A cs).length = cs.length := clsOf_length
    rw [c2, List.getElem?_append_right (by omega)]; simp [hlc]
  have hsn : ((cs ++ [r]).length : Int) - 1 = (cs.length : Int) := by simp
  refine ⟨g1, g2, fun _ => ?_⟩
  rw [g3', hsn]
  have hl' := lit_neg hPl
  have h0 : tv (T.take s.toNat) (-P) = 0 := tv_zero.2 ⟨hPT2, by rw [Int.neg_neg]; exact hPT⟩
  refine ⟨by unfold I64; omega, set_ok hS2.ti hl' ?_⟩
  have hS3 := hS2.push hl' h0 (r := (cs.length : Int)) (starts' := starts.take k) (.inl ⟨rfl, by omega, O, by simpa using hlast, fun x hx => by obtain ⟨q, hq⟩ := hOT x hx; exact List.mem_of_getElem? hq⟩) hS2.st
  obtain ⟨hB2, hbw⟩ := hB.learn ht.asc hk hsb hTn (l := -P) (heat' := heat') hheat hC1lit hC1l24 hrup
  have hlenT : (T.take s.toNat).length = s.toNat := by rw [List.length_take]; omega
  have hQ3 : QF (clsOf A cs ++ [-P :: O]) (T.take s.toNat ++ [-P]) (starts.take k) (T.take s.toNat).length := by
    refine QI.join (QI.push hQb (-P) (Nat.le_refl _)) fun a ha q hq hlt => ?_
    rw [List.getElem?_append_left hlt] at hq
    cases O with
    | nil =>
      simp at ha; subst ha
      rw [Int.neg_neg] at hq
      exact absurd (List.mem_of_getElem? hq) hPT
    | cons w D =>
      simp at ha
      rcases ha with rfl | rfl
      · rw [Int.neg_neg] at hq
        exact absurd (List.mem_of_getElem? hq) hPT
      · refine ⟨-P, by simp, (T.take s.toNat).length, by simp, ?_⟩
        obtain ⟨q', hq', hlq⟩ := hOcons a D rfl
        rw [List.getElem?_take_of_lt (by omega)] at hq
        have e := ht.pos hq hq'
        subst e
        have h1 := lev_le (starts.take k) (T.take s.toNat).length
        have h3 : (starts.take k).length = k := by rw [List.length_take]; omega
        have h2 : lev (starts.take k) q = lev starts q := lev_take ht.asc hk (by omega)
        rw [h2, hlq]
        omega
  refine hX _ _ _ _ _ _ _ _ _ _ _ ⟨o2, lines ++ [-P :: O], hS3, ?_, ?_⟩ hS3.ti.len hbw
  · rw [c2]; rw [Int.toNat_natCast]; exact hQ3
  · have e : proof ++ [(false, -P :: O)] = (lines ++ [-P :: O]).map fun c => (false, c) := by rw [List.map_append, ← hB.pr]; rfl
    rw [c2, e]; exact hB2
end
end Go.Vc
