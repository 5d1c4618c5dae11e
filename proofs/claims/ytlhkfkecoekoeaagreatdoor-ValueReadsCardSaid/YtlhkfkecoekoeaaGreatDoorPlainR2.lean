/- The program's values as the document's: order, weight, sets, functions and sequences agree. No program in sight. -/
import Derived.Test.YtlhkfkecoekoeaaGreatDoorPlainR1
set_option linter.unusedVariables false
set_option linter.unusedSimpArgs false
namespace Go.Vc
mutual
def toR : Val → RV
  | .nil => .mk 0 0 [] [] []
  | .truth b => .mk 1 (if b then 1 else 0) [] [] []
  | .num n => .mk 2 n [] [] []
  | .text s => .mk 3 0 s [] []
  | .atom s => .mk 4 0 s [] []
  | .set l _ => .mk 5 0 [] (toRL l) []
  | .fn k v _ => .mk 6 0 [] (toRL k) (toRL v)
def toRL : List Val → List RV
  | [] => []
  | a :: l => toR a :: toRL l
end
theorem toRL_map : ∀ l, toRL l = l.map toR
  | [] => rfl
  | a :: l => by simp [toRL, toRL_map l]
theorem toRL_len (l : List Val) : (toRL l).length = l.length := by simp [toRL_map]
theorem toRL_app (a b : List Val) : toRL (a ++ b) = toRL a ++ toRL b := by simp [toRL_map]
theorem toR_k (v : Val) : (toR v).k = v.rankOf := by cases v <;> rfl
theorem toR_nil (v : Val) : (toR v).k = 0 ↔ v.isNil = true := by cases v <;> simp [toR, RV.k, Val.isNil]
theorem lcRL_toR : ∀ {a b : List Val}, HvL a → HvL b → a.length = b.length → (∀ x ∈ a, ∀ y ∈ b, cmpR (toR x) (toR y) = cmpV x y) → lc (encRL (toRL a)) (encRL (toRL b)) = lc (encL a) (encL b)
  | [], [], _, _, _, _ => rfl
  | [], _ :: _, _, _, hl, _ => by simp at hl
  | _ :: _, [], _, _, hl, _ => by simp at hl
  | x :: a, y :: b, ha, hb, hl, h => by
    simp only [toRL, encRL, encL]
    rw [lc_app (freeR _ _), lc_app (free_enc ha.1 hb.1)]
    have e := h x (by simp) y (by simp)
    unfold cmpR cmpV at e
    rw [e, lcRL_toR ha.2 hb.2 (by simpa using hl) fun u hu v hv => h u (by simp [hu]) v (by simp [hv])]
theorem cmpRL_toR {a b : List Val} (ha : HvL a) (hb : HvL b) (h : ∀ x ∈ a, ∀ y ∈ b, cmpR (toR x) (toR y) = cmpV x y) : cmpRL (toRL a) (toRL b) = cmpVL a b := by
  unfold cmpRL cmpVL
  rw [lc_cons, lc_cons, toRL_len, toRL_len]
  by_cases h0 : cI (a.length : Int) b.length = 0
  · rw [if_pos h0, if_pos h0]
    have := cI_zero h0
    exact lcRL_toR ha hb (by omega) h
  · rw [if_neg h0, if_neg h0]
theorem cmpRL_nil : cmpRL [] [] = 0 := rfl
theorem cS_nil : cS [] [] = 0 := rfl
theorem cI_self (x : Int) : cI x x = 0 := by simp [cI]
theorem cmp_toR : ∀ (n : Nat) {a b : Val}, a.sz < n → Hv a → Hv b → cmpR (toR a) (toR b) = cmpV a b
  | 0, _, _, h, _, _ => absurd h (by omega)
  | n + 1, a, b, hn, ha, hb => by
    rw [cmpR_parts]
    by_cases hr : cI a.rankOf b.rankOf = 0
    · have hr2 := cI_zero hr
      rw [toR_k, toR_k, if_pos hr]
      cases a <;> cases b <;> simp [Val.rankOf] at hr2
      · simp [toR, RV.i, RV.t, RV.ks, RV.vs, cI_self, cS_nil, cmpRL_nil, cmpV, lc_refl]
      · rename_i x y
        cases x <;> cases y <;> simp [toR, RV.i, RV.t, RV.ks, RV.vs, cI, cS_nil, cmpRL_nil, cmpV, enc, lc]
      · rename_i x y
        simp only [toR, RV.i, RV.t, RV.ks, RV.vs, cS_nil, cmpRL_nil, if_true, cmp_num]
        split
        · rename_i h; exact h.symm
        · rfl
      · rename_i x y
        simp only [toR, RV.i, RV.t, RV.ks, RV.vs, cI_self, cmpRL_nil, if_true]
        have e : cmpV (.text x) (.text y) = cS x y := by rw [← cS_enc]; simp [cmpV, enc, lc]
        rw [e]; split
        · rename_i h; exact h.symm
        · rfl
      · rename_i x y
        simp only [toR, RV.i, RV.t, RV.ks, RV.vs, cI_self, cmpRL_nil, if_true]
        have e : cmpV (.atom x) (.atom y) = cS x y := by rw [← cS_enc]; simp [cmpV, enc, lc]
        rw [e]; split
        · rename_i h; exact h.symm
        · rfl
      · rename_i l w l' w'
        have ek := cmpRL_toR ha.2 hb.2 fun x hx y hy => cmp_toR n (by have := sz_mem_set (w := w) hx; omega) (HvL_iff.1 ha.2 _ hx) (HvL_iff.1 hb.2 _ hy)
        simp only [toR, RV.i, RV.t, RV.ks, RV.vs, cI_self, cS_nil, cmpRL_nil, if_true, ek]
        have e : cmpV (.set l w) (.set l' w') = cmpVL l l' := by unfold cmpVL; simp [cmpV, enc, lc]
        rw [e]; split
        · rename_i h; exact h.symm
        · rfl
      · rename_i k v w k' v' w'
        have ek := cmpRL_toR ha.2.1 hb.2.1 fun x hx y hy => cmp_toR n (by have := sz_mem_k (v := v) (w := w) hx; omega) (HvL_iff.1 ha.2.1 _ hx) (HvL_iff.1 hb.2.1 _ hy)
        have ev := cmpRL_toR ha.2.2 hb.2.2 fun x hx y hy => cmp_toR n (by have := sz_mem_v (k := k) (w := w) hx; omega) (HvL_iff.1 ha.2.2 _ hx) (HvL_iff.1 hb.2.2 _ hy)
        simp only [toR, RV.i, RV.t, RV.ks, RV.vs, cI_self, cS_nil, if_true, ek, ev]
        unfold cmpV cmpVL; simp only [enc]
        have := lc_app (freeVL ha.2.1 hb.2.1) ((v.length : Int) :: encL v) ((v'.length : Int) :: encL v')
        rw [← this]; simp [lc]
    · rw [toR_k, toR_k, if_neg hr]
      unfold cmpV
      cases a <;> cases b <;> simp only [enc, lc_cons, Val.rankOf] at hr ⊢ <;> first | (rw [if_neg hr]) | (exact absurd rfl hr)
theorem cmpR_toR {a b : Val} (ha : Hv a) (hb : Hv b) : cmpR (toR a) (toR b) = cmpV a b := cmp_toR _ (Nat.lt_succ_self _) ha hb
mutual
theorem wt_toR : ∀ {v : Val}, Hv v → wtR (toR v) = v.weightOf
  | .nil, _ => rfl
  | .truth _, _ => rfl
  | .num _, _ => rfl
  | .text _, _ => rfl
  | .atom _, _ => rfl
  | .set l h, g => by have := wtL_toR g.2; have := g.1; simp [toR, wtR, wtRL, Val.weightOf]; omega
  | .fn k v h, g => by have := wtL_toR g.2.1; have := wtL_toR g.2.2; have := g.1; simp [toR, wtR, wtRL, Val.weightOf]; omega
theorem wtL_toR : ∀ {l : List Val}, HvL l → wtRL (toRL l) = wtL l
  | [], _ => rfl
  | a :: l, g => by have := wt_toR g.1; have := wtL_toR g.2; simp [toRL, wtRL, wtL]; omega
end
theorem insR_toR {a : Val} (ha : Hv a) : ∀ {l : List Val}, HvL l → insR (toR a) (toRL l) = toRL (insU a l)
  | [], _ => rfl
  | b :: l, h => by
    simp only [toRL, insR, insU]
    rw [cmpR_toR ha h.1]
    split
    · rfl
    · split
      · rfl
      · simp [toRL, insR_toR ha h.2]
theorem canonR_toR {l : List Val} (hl : HvL l) : canonR (toRL l) = toRL (canon l) := by
  have : ∀ {l s : List Val}, HvL l → HvL s → (toRL l).foldl (fun s a => insR a s) (toRL s) = toRL (l.foldl (fun s a => insU a s) s) := by
    intro l
    induction l with
    | nil => intro s _ _; rfl
    | cons a l ih => intro s h1 h2; simp only [toRL, List.foldl_cons]; rw [insR_toR h1.1 h2]; exact ih h1.2 (insU_hv h1.1 h2)
  exact this hl (s := []) trivial
theorem setR_toR {l : List Val} (hl : HvL l) : setR (toRL l) = toR (setV l) := by
  have hc : HvL (canon l) := HvL_iff.2 fun a ha => HvL_iff.1 hl _ ((canon_mem hl a).1 ha)
  unfold setR setV setA lightR
  rw [canonR_toR hl]
  have e : wtR (.mk 5 0 [] (toRL (canon l)) []) = 1 + wtL (canon l) := by simp [wtR, wtRL, wtL_toR hc]
  rw [e]
  split
  · rfl
  · rfl
def toP (p : VP) : RP := (toR p.1, toR p.2)
theorem insPR_toR {k v : Val} (hk : Hv k) : ∀ {l : List VP}, HvP l → insPR (toR k) (toR v) (l.map toP) = (insP k v l).map toP
  | [], _ => rfl
  | b :: l, h => by
    simp only [List.map_cons, insPR, insP, toP]
    rw [cmpR_toR hk (h b (by simp))]
    split
    · rfl
    · split
      · rfl
      · have := insPR_toR (v := v) hk (l := l) fun p hp => h p (by simp [hp])
        simp only [List.map_cons, toP] at this ⊢
        rw [this]
theorem canonPR_toR {l : List VP} (hl : HvP l) : canonPR (l.map toP) = (canonP l).map toP := by
  have : ∀ {l s : List VP}, HvP l → HvP s → (l.map toP).foldl (fun s p => insPR p.1 p.2 s) (s.map toP) = (l.foldl (fun s p => insP p.1 p.2 s) s).map toP := by
    intro l
    induction l with
    | nil => intro s _ _; rfl
    | cons a l ih =>
      intro s h1 h2
      simp only [List.map_cons, List.foldl_cons]
      rw [show insPR (toP a).1 (toP a).2 (s.map toP) = (insP a.1 a.2 s).map toP from insPR_toR (h1 a (by simp)) h2]
      exact ih (fun p hp => h1 p (by simp [hp])) (insP_hv (h1 a (by simp)) h2)
  exact this hl (s := []) (fun p hp => by cases hp)
theorem zip_toR : ∀ k v : List Val, (toRL k).zip (toRL v) = (k.zip v).map toP
  | [], v => by simp [toRL]
  | a :: k, [] => by simp [toRL]
  | a :: k, b :: v => by simp [toRL, toP, zip_toR k v]
theorem funA_toR {k v : List Val} (hk : HvL k) (hv : HvL v) : lightR (.mk 6 0 [] (toRL k) (toRL v)) = toR (funA k v) := by
  unfold funA lightR
  have e : wtR (.mk 6 0 [] (toRL k) (toRL v)) = 1 + wtL k + wtL v := by simp [wtR, wtL_toR hk, wtL_toR hv]
  rw [e]
  split
  · rfl
  · rfl
theorem funR_toR {k v : List Val} (hk : HvL k) (hv : HvL v) : funR (toRL k) (toRL v) = toR (funV k v) := by
  have hz : HvP (k.zip v) := fun p hp => HvL_iff.1 hk _ (List.of_mem_zip hp).1
  unfold funR funV
  rw [zip_toR, canonPR_toR hz]
  have e1 : ((canonP (k.zip v)).map toP).map (·.1) = toRL ((canonP (k.zip v)).map (·.1)) := by rw [toRL_map, List.map_map, List.map_map]; rfl
  have e2 : ((canonP (k.zip v)).map toP).map (·.2) = toRL ((canonP (k.zip v)).map (·.2)) := by rw [toRL_map, List.map_map, List.map_map]; rfl
  rw [e1, e2]
  refine funA_toR (HvL_iff.2 fun x hx => ?_) (HvL_iff.2 fun x hx => ?_)
  · obtain ⟨p, hp, rfl⟩ := List.mem_map.1 hx
    exact HvL_iff.1 hk _ (List.of_mem_zip (canonP_sub hz hp)).1
  · obtain ⟨p, hp, rfl⟩ := List.mem_map.1 hx
    exact HvL_iff.1 hv _ (List.of_mem_zip (canonP_sub hz hp)).2
theorem numsR_toR (n : Nat) : numsR n = toRL (nums n) := by rw [toRL_map, nums, List.map_map]; rfl
theorem nums_hv (n : Nat) : HvL (nums n) := HvL_iff.2 fun a ha => by obtain ⟨k, _, rfl⟩ := List.mem_map.1 ha; trivial
theorem seqR_toR {l : List Val} (hl : HvL l) : seqR (toRL l) = toR (seqV l) := by
  unfold seqR seqV
  rw [toRL_len, numsR_toR]
  exact funA_toR (nums_hv _) hl
end Go.Vc
