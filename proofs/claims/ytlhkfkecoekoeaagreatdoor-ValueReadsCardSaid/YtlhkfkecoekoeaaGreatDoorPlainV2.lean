/- The order of values, part 2: what the program's comparing computes. No program in sight. -/
import Derived.Test.YtlhkfkecoekoeaaGreatDoorPlainV1
set_option linter.unusedVariables false
set_option linter.unusedSimpArgs false
namespace Go.Vc
theorem free_enc {a b : Val} (ha : Hv a) (hb : Hv b) : Free (enc a) (enc b) := fun s t h => by rw [(enc_inj ha hb h).1]
theorem free_encS {x y : Str} : Free (encS x) (encS y) := fun s t h => by rw [(encS_inj h).1]
def cmpV (a b : Val) : Int := lc (enc a) (enc b)
theorem cmpV_refl (a : Val) : cmpV a a = 0 := lc_refl _
theorem cmpV_neg (a b : Val) : cmpV b a = - cmpV a b := lc_neg _ _
theorem cmpV_three (a b : Val) : cmpV a b = -1 ∨ cmpV a b = 0 ∨ cmpV a b = 1 := lc_three _ _
theorem cmpV_eq {a b : Val} (ha : Hv a) (hb : Hv b) (h : cmpV a b = 0) : a = b := (enc_inj (s := []) (t := []) ha hb (by rw [lc_eq h])).1
theorem cmpV_trans {a b c : Val} (h1 : cmpV a b < 0) (h2 : cmpV b c < 0) : cmpV a c < 0 := lc_trans h1 h2
theorem cmpV_trans_le {a b c : Val} (h1 : cmpV a b ≤ 0) (h2 : cmpV b c ≤ 0) : cmpV a c ≤ 0 := lc_trans_le h1 h2
def cI (x y : Int) : Int := if x < y then -1 else if y < x then 1 else 0
def cS (x y : Str) : Int := if sLt x y then -1 else if x = y then 0 else 1
theorem lc_cons (x y : Int) (s t : List Int) : lc (x :: s) (y :: t) = if cI x y = 0 then lc s t else cI x y := by
  simp only [lc, cI]; split
  · simp
  · split <;> simp
theorem cS_enc : ∀ x y : Str, lc (encS x) (encS y) = cS x y
  | [], [] => by simp [encS, lc, cS, sLt, Op.bytesLess]
  | [], c :: y => by
    have : (0 : Int) < (c.toNat : Int) + 1 := by omega
    simp [encS, lc, cS, sLt, Op.bytesLess, this]
  | c :: x, [] => by
    have : (0 : Int) < (c.toNat : Int) + 1 := by omega
    have h2 : ¬ (c.toNat : Int) + 1 < 0 := by omega
    simp [encS, lc, cS, sLt, Op.bytesLess, this, h2]
  | c :: x, d :: y => by
    have ih := cS_enc x y
    have e : lc (encS (c :: x)) (encS (d :: y)) = if (c.toNat : Int) + 1 < d.toNat + 1 then -1 else if (d.toNat : Int) + 1 < c.toNat + 1 then 1 else lc (encS x) (encS y) := by simp [encS, lc]
    rw [e, ih]
    simp only [cS, sLt, Op.bytesLess]
    by_cases h1 : c < d
    · have : c.toNat < d.toNat := h1
      rw [if_pos (by omega)]; simp [h1]
    · by_cases h2 : d < c
      · have : d.toNat < c.toNat := h2
        have hne : c ≠ d := by rintro rfl; omega
        rw [if_neg (by omega), if_pos (by omega)]; simp [h1, hne]
      · have h3 : ¬ c.toNat < d.toNat := h1
        have h4 : ¬ d.toNat < c.toNat := h2
        have : c = d := UInt8.toNat_inj.1 (by omega)
        subst this
        simp only [h1, if_neg h3, Nat.lt_irrefl, Int.lt_irrefl, if_false, beq_self_eq_true, Bool.true_and, decide_false, Bool.false_or, List.cons.injEq, true_and]
        by_cases hx : x = y <;> simp [hx]
theorem cI_zero {x y : Int} (h : cI x y = 0) : x = y := by
  unfold cI at h; split at h
  · simp at h
  · split at h
    · simp at h
    · omega
theorem rank_ok {v : Val} {Q : Int → Prop} (h : Q v.rankOf) : V_rank v Q := by
  cases v <;> simpa [V_rank, V_irank, V_rankT, V_rankN, V_rankX, V_rankA, V_rankS, V_rankF, Val.isNil, Val.rankOf] using h
theorem weight_ok {v : Val} {Q : Int → Prop} (h : Q v.weightOf) : V_Weight v Q := by
  cases v <;> simp [V_Weight, V_iweight, V_weightT, V_weightN, V_weightX, V_weightA, V_weightS, V_weightF, Val.isNil, Val.weightOf, Val.isSet, Val.isFn, Val.setH, Val.fnH] at h ⊢ <;> first | exact h | exact fun _ => h
theorem cmpI_ok {x y : Int} {Q : Int → Prop} (h : Q (cI x y)) : V_cmpI x y Q := by
  unfold cI at h; simp only [V_cmpI, V_isNaN, ne_eq, not_true_eq_false, decide_false]; simp
  refine ⟨fun h1 => by simpa [h1] using h, fun h1 => ⟨fun h2 => ?_, fun h2 => ?_⟩⟩
  · simpa [show ¬ x < y by omega, h2] using h
  · simpa [show ¬ x < y by omega, show ¬ y < x by omega] using h
theorem cmpN_ok {x y : Int} {Q : Int → Prop} (h : Q (cI x y)) : V_cmpN x y Q := by
  unfold cI at h; simp only [V_cmpN, V_isNaNN, ne_eq, not_true_eq_false, decide_false]; simp
  refine ⟨fun h1 => by simpa [h1] using h, fun h1 => ⟨fun h2 => ?_, fun h2 => ?_⟩⟩
  · simpa [show ¬ x < y by omega, h2] using h
  · simpa [show ¬ x < y by omega, show ¬ y < x by omega] using h
theorem cmpX_ok {x y : Str} {Q : Int → Prop} (h : Q (cS x y)) : V_cmpX x y Q := by
  unfold cS at h; simp only [V_cmpX, V_isNaNX, ne_eq, not_true_eq_false, decide_false]
  cases h1 : sLt x y <;> by_cases h2 : x = y <;> simp_all
theorem cmpA_ok {x y : Str} {Q : Int → Prop} (h : Q (cS x y)) : V_cmpA x y Q := by
  unfold cS at h; simp only [V_cmpA, V_isNaNA, ne_eq, not_true_eq_false, decide_false]
  cases h1 : sLt x y <;> by_cases h2 : x = y <;> simp_all
theorem cmpOr_ok {x y : Int} {Q : Int → Prop} (h : Q (if x = 0 then y else x)) : V_cmpOr [x, y] Q := by
  intro _
  refine ⟨fun k => k = 0 ∨ (k = 1 ∧ x = 0) ∨ (k = 2 ∧ x = 0 ∧ y = 0), fun k => (2 - k).toNat, Or.inl rfl, ?_⟩
  rintro k (rfl | ⟨rfl, hx⟩ | ⟨rfl, hx, hy⟩)
  · refine ⟨fun _ => ⟨⟨by simp, by simp⟩, fun _ => ⟨fun hn => ?_, fun hn => ⟨by simp [I64], ?_⟩⟩⟩, fun hn => absurd hn (by simp)⟩
    · simp [ix] at hn ⊢; simpa [hn] using h
    · simp [ix] at hn; exact ⟨Or.inr (Or.inl ⟨by simp, hn⟩), by simp⟩
  · refine ⟨fun _ => ⟨⟨by simp, by simp⟩, fun _ => ⟨fun hn => ?_, fun hn => ⟨by simp [I64], ?_⟩⟩⟩, fun hn => absurd hn (by simp)⟩
    · simp [ix] at hn ⊢; simpa [hx] using h
    · simp [ix] at hn; exact ⟨Or.inr (Or.inr ⟨by simp, hx, hn⟩), by simp⟩
  · exact ⟨fun hn => absurd hn (by simp), fun _ => by simpa [hx, hy] using h⟩
theorem ix_mem {α : Type} [Inhabited α] {l : List α} {i : Int} (h0 : 0 ≤ i) (h1 : i < l.length) : ix l i ∈ l := by
  have := ix_get h0 h1; exact List.mem_of_getElem? this
theorem drop_ix {α : Type} [Inhabited α] {l : List α} {i : Int} (h0 : 0 ≤ i) (h1 : i < l.length) : l.drop i.toNat = ix l i :: l.drop (i + 1).toNat := by
  have h2 : i.toNat < l.length := by omega
  have : (i + 1).toNat = i.toNat + 1 := by omega
  rw [List.drop_eq_getElem_cons h2, this]
  simp [ix, h2]
theorem CompareFunc_ok {G : Val → Val → (Int → Prop) → Prop} {a b : List Val} {Q : Int → Prop} (hl : a.length = b.length) (ha : HvL a) (hb : HvL b)
    (hG : ∀ x ∈ a, ∀ y ∈ b, ∀ Q, Q (cmpV x y) → G x y Q) (h : Q (lc (encL a) (encL b))) : V_CompareFunc G a b Q := by
  intro hL
  refine ⟨fun k => 0 ≤ k ∧ k ≤ a.length ∧ lc (encL (a.drop k.toNat)) (encL (b.drop k.toNat)) = lc (encL a) (encL b), fun k => (a.length - k).toNat, ⟨by simp, by simp, by simp⟩, ?_⟩
  show ∀ k : Int, _ → _
  rintro k ⟨k0, k1, k2⟩
  refine ⟨fun hk => ⟨⟨k0, hk⟩, fun _ => ⟨fun hn => absurd hn (by omega), fun _ => ⟨⟨k0, by omega⟩, ?_⟩⟩⟩, fun hn _ _ => ⟨fun hn => absurd hn (by omega), fun _ => ?_⟩⟩
  · have ma := ix_mem k0 hk; have mb := ix_mem (l := b) k0 (by omega)
    refine hG _ ma _ mb _ ?_
    rw [drop_ix k0 hk, drop_ix (l := b) k0 (by omega)] at k2
    simp only [encL] at k2
    rw [lc_app (free_enc (HvL_iff.1 ha _ ma) (HvL_iff.1 hb _ mb))] at k2
    refine ⟨fun hn => ?_, fun hn => ⟨by unfold I64; unfold Len at hL; omega, ⟨by omega, by omega, ?_⟩, by show (_ : Int).toNat < (_ : Int).toNat; omega⟩⟩
    · unfold cmpV at hn ⊢; rw [if_neg hn] at k2; rw [k2]; exact h
    · have hn : lc (enc (ix a k)) (enc (ix b k)) = 0 := by simpa [cmpV] using hn
      rw [if_pos hn] at k2; exact k2
  · have : k = a.length := by omega
    subst this
    rw [List.drop_of_length_le (by simp), List.drop_of_length_le (by simp; omega)] at k2
    rw [← k2] at h; simpa [encL, lc] using h
def cmpVL (a b : List Val) : Int := lc ((a.length : Int) :: encL a) ((b.length : Int) :: encL b)
theorem cmpLists_ok {G : Val → Val → (Int → Prop) → Prop} {a b : List Val} {Q : Int → Prop} (ha : HvL a) (hb : HvL b)
    (hG : ∀ x ∈ a, ∀ y ∈ b, ∀ Q, Q (cmpV x y) → G x y Q) (h : Q (cmpVL a b)) : V_cmpLists G a b Q := by
  intro _ _
  unfold cmpVL at h; rw [lc_cons] at h
  refine cmpI_ok ⟨fun hn => by simpa [hn] using h, fun hn => ?_⟩
  have hn : cI a.length b.length = 0 := by simpa using hn
  rw [if_pos hn] at h
  have hl : a.length = b.length := by have := cI_zero hn; omega
  exact CompareFunc_ok hl ha hb hG h
theorem freeVL {a b : List Val} (ha : HvL a) (hb : HvL b) : Free ((a.length : Int) :: encL a) ((b.length : Int) :: encL b) := fun s t h => by
  simp only [List.cons_append, List.cons.injEq] at h
  rw [(encL_inj (by omega) ha hb h.2).1]
mutual
def Val.sz : Val → Nat
  | .set l _ => szL l + 1
  | .fn k v _ => szL k + szL v + 1
  | _ => 1
def szL : List Val → Nat
  | [] => 0
  | a :: l => a.sz + szL l + 1
end
theorem szL_mem : ∀ {l : List Val} {a : Val}, a ∈ l → a.sz < szL l
  | b :: l, a, h => by
    rcases List.mem_cons.1 h with rfl | h
    · simp [szL]; omega
    · have := szL_mem h; simp [szL]; omega
theorem sz_mem_set {a : Val} {l : List Val} {w : Int} (h : a ∈ l) : a.sz < (Val.set l w).sz := by
  have := szL_mem h; simp [Val.sz]; omega
theorem sz_mem_k {a : Val} {k v : List Val} {w : Int} (h : a ∈ k) : a.sz < (Val.fn k v w).sz := by
  have := szL_mem h; simp [Val.sz]; omega
theorem sz_mem_v {a : Val} {k v : List Val} {w : Int} (h : a ∈ v) : a.sz < (Val.fn k v w).sz := by
  have := szL_mem h; simp [Val.sz]; omega
theorem Compare_ok : ∀ (m : Nat) {a b : Val} {Q : Int → Prop}, a.sz < m → Hv a → Hv b → Q (cmpV a b) → V_Compare m a b Q
  | 0, _, _, _, h, _, _, _ => absurd h (by omega)
  | m + 1, a, b, Q, hm, ha, hb, h => by
    unfold V_Compare
    refine rank_ok (rank_ok (cmpI_ok (VMeet_go ?_)))
    by_cases hr : cI a.rankOf b.rankOf = 0
    · refine ⟨fun hn => absurd hr hn, fun hq => ?_⟩
      have hr2 : a.rankOf = b.rankOf := cI_zero hr
      cases a <;> cases b <;> simp [Val.rankOf] at hr2 <;> simp only [Val.isNil, Val.isTruth, Val.isNum, Val.isText, Val.isAtom, Val.isSet, Val.isFn, Val.truthD, Val.numD, Val.textD, Val.atomD, Val.setL, Val.fnK, Val.fnV, true_implies, false_implies, reduceCtorEq, and_true, true_and, hr]
      · simpa [cmpV, lc_refl] using h
      · rename_i x y; cases x <;> cases y <;> simpa [cmpV, enc, lc] using h
      · refine cmpN_ok ?_; rename_i x y; simpa [cmpV, enc, lc, cI] using h
      · refine cmpX_ok ?_; rename_i x y; rw [← cS_enc]; simpa [cmpV, enc, lc] using h
      · refine cmpA_ok ?_; rename_i x y; rw [← cS_enc]; simpa [cmpV, enc, lc] using h
      · rename_i l w l' w'
        refine cmpLists_ok ha.2 hb.2 (fun x hx y hy Q hQ => Compare_ok m ?_ (HvL_iff.1 ha.2 _ hx) (HvL_iff.1 hb.2 _ hy) hQ) ?_
        · have := sz_mem_set (w := w) hx; omega
        · unfold cmpVL; simpa [cmpV, enc, lc] using h
      · rename_i k v w k' v' w'
        refine cmpLists_ok ha.2.1 hb.2.1 (fun x hx y hy Q hQ => Compare_ok m ?_ (HvL_iff.1 ha.2.1 _ hx) (HvL_iff.1 hb.2.1 _ hy) hQ) (cmpLists_ok ha.2.2 hb.2.2 (fun x hx y hy Q hQ => Compare_ok m ?_ (HvL_iff.1 ha.2.2 _ hx) (HvL_iff.1 hb.2.2 _ hy) hQ) (cmpOr_ok ?_))
        · have := sz_mem_k (v := v) (w := w) hx; omega
        · have := sz_mem_v (k := k) (w := w) hx; omega
        · have e : cmpV (.fn k v w) (.fn k' v' w') = if cmpVL k k' = 0 then cmpVL v v' else cmpVL k k' := by
            unfold cmpV cmpVL; simp only [enc]
            have := lc_app (freeVL ha.2.1 hb.2.1) ((v.length : Int) :: encL v) ((v'.length : Int) :: encL v')
            rw [← this]; simp [lc]
          rw [e] at h; exact h
    · refine ⟨fun _ => ⟨fun _ => ?_, fun hn => absurd hn (by simp)⟩, fun hn => absurd hr hn⟩
      have e : cmpV a b = cI a.rankOf b.rankOf := by
        unfold cmpV
        cases a <;> cases b <;> simp only [enc, lc_cons, Val.rankOf] at hr ⊢ <;> first | (rw [if_neg hr]) | (exact absurd rfl hr)
      rw [e] at h; exact h
end Go.Vc
