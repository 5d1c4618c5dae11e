/- The document's side in plain words, part 3: the order behind Sift. No program in sight. -/
import Derived.Test.YtceipmldngeagaaPlainB10
set_option linter.unusedVariables false
set_option linter.unusedSimpArgs false
set_option linter.unusedSectionVars false
namespace Go.Vc
variable {n : Int} {order level : List Int}
structure Prm (n : Int) (o : List Int) : Prop where
  nd : o.Nodup
  mem : ∀ x, x ∈ o ↔ 0 ≤ x ∧ x < n
theorem Ord.prm (h : Ord n order level) : Prm n order := ⟨h.nodup, fun x => h.mem⟩
theorem Prm.len (h : Prm n order) (h0 : 0 ≤ n) : (order.length : Int) = n := by
  have hp : order.Perm (dn n.toNat) := (List.perm_ext_iff_of_nodup h.nd (dn_nodup _)).2 fun v => by rw [h.mem, mem_dn]; omega
  have : ∀ m, (dn m).length = m := fun m => by induction m with
    | zero => rfl
    | succ m ih => simp [dn, ih]
  rw [hp.length_eq, this]; omega
theorem ins_perm {o : List Int} (hn : o.Nodup) {v : Int} (hv : v ∈ o) (p : Nat) : (ins (wout o v) v p).Perm o := by
  have h1 : (ins (wout o v) v p).Perm (v :: wout o v) := by
    unfold ins
    refine List.perm_middle.trans ?_
    rw [List.take_append_drop]
  refine h1.trans ((List.perm_ext_iff_of_nodup ?_ hn).2 fun x => ?_)
  · rw [List.nodup_cons]; exact ⟨wout_notin, hn.sublist List.filter_sublist⟩
  · rw [List.mem_cons]; unfold wout; rw [List.mem_filter]
    constructor
    · rintro (rfl | h)
      · exact hv
      · exact h.1
    · intro h
      by_cases e : x = v
      · exact .inl e
      · exact .inr ⟨h, by simp [e]⟩
theorem Prm.ins (h : Prm n order) {v : Int} (hv : 0 ≤ v ∧ v < n) (p : Nat) : Prm n (ins (wout order v) v p) := by
  have hp := ins_perm h.nd ((h.mem v).2 hv) p
  exact ⟨hp.nodup_iff.2 h.nd, fun x => by rw [hp.mem_iff, h.mem]⟩
theorem Prm.fold (h : Prm n order) {fs : List Fn} : ∀ {vs : List Int}, (∀ v ∈ vs, 0 ≤ v ∧ v < n) → Prm n (vs.foldl (siftVar fs) order) := by
  intro vs
  induction vs generalizing order with
  | nil => intro _; exact h
  | cons v vs ih => intro hv; exact ih (h.ins (hv v (by simp)) _) fun w hw => hv w (List.mem_cons_of_mem _ hw)
theorem without_ok {o : List Int} (h9 : o.length ≤ 9) {v : Int} {Q : List Int → Prop} (k : Q (wout o v)) : V_without o v Q := by
  refine ⟨fun s => 0 ≤ s.2 ∧ s.2 ≤ o.length ∧ s.1 = wout (o.take s.2.toNat) v, fun s => (o.length - s.2).toNat, ⟨Int.le_refl 0, by (try dsimp only); omega, rfl⟩, ?_⟩
  rintro ⟨l, x⟩ ⟨x0, x1, x2⟩
  dsimp only at x0 x1 x2
  subst x2
  have hl : (wout (o.take x.toNat) v).length ≤ 9 := by
    have := List.length_filter_le (fun y => decide (y ≠ v)) (o.take x.toNat)
    rw [List.length_take] at this; unfold wout; omega
  refine fun _ => ⟨fun hlt => ?_, fun hge => ?_⟩
  · have hlt : x < (o.length : Int) := hlt
    have hx := ix_get x0 hlt
    have e : wout (o.take (x + 1).toNat) v = wout (o.take x.toNat) v ++ (if ix o x ≠ v then [ix o x] else []) := by
      have : (x + 1).toNat = x.toNat + 1 := by omega
      unfold wout
      rw [this, List.take_add_one, hx, List.filter_append]
      by_cases h : ix o x = v <;> simp [h]
    refine ⟨fun l => l = wout (o.take (x + 1).toNat) v, fun l hl => ⟨by unfold I64; omega, ⟨by (try dsimp only); omega, by (try dsimp only); omega, hl⟩, by (try dsimp only); omega⟩, ⟨x0, hlt⟩, fun _ => ⟨fun hne => ⟨⟨x0, hlt⟩, fun _ => ⟨⟨by simp; omega, by simp; unfold maxLen; omega⟩, ?_⟩⟩, fun he => ?_⟩⟩
    · rw [e, if_pos hne]
    · rw [e, if_neg he]; simp
  · have : x.toNat = o.length := by
      have : ¬ x < (o.length : Int) := hge
      omega
    show Q (wout (o.take x.toNat) v)
    rw [this, List.take_length]; exact k
theorem rat_ok {o : List Int} (h9 : o.length ≤ 9) {v : Int} {p : Int} (h0 : 0 ≤ p) (h1 : p ≤ o.length) {Q : List Int → Prop} (k : Q (ins o v p.toNat)) : V_rat o v p Q := by
  have hd : (o.drop p.toNat).length ≤ 9 := by rw [List.length_drop]; omega
  refine ⟨⟨h0, h1⟩, ⟨by simp; omega, by simp; unfold maxLen; omega⟩, ⟨by simp; omega, by simp; unfold maxLen; omega⟩, ⟨h0, h1⟩, ⟨by simp; omega, by simp; unfold maxLen; omega⟩, ?_⟩
  have e : (o.take p.toNat ++ [v]) ++ o.drop p.toNat = ins o v p.toNat := by unfold ins; simp
  rw [e]; exact k
open Classical in
theorem rSift_ok (h0 : 0 ≤ n) (h9 : n ≤ 9) {fs : List Fn} (hs : ∀ f ∈ fs, Sup n f) (hl : fs.length ≤ 290000000) (hp : Prm n order) {Q : List Int → Prop} (k : ∀ vs, Srt (fun v => cntF order fs v) n vs → Q (vs.foldl (siftVar fs) order)) : V_rSift (fs.map (tt n)) order Q := by
  have hlo := hp.len h0
  have hom : ∀ {o}, Prm n o → ∀ v ∈ o, 0 ≤ v ∧ v < n := fun hp v hv => (hp.mem v).1 hv
  have hol : ∀ {o}, Prm n o → o.length ≤ 9 := fun hp => by have := hp.len h0; omega
  unfold V_rSift
  rw [hlo]
  refine fun _ => ⟨⟨h0, by omega, by omega⟩, Asked_ok h0 h9 hs hl (hom hp) (hol hp) fun R hn hm hcap => ?_⟩
  unfold CAP at hcap
  have hnn : (n.toNat : Int) = n := by omega
  refine ⟨fun s => 0 ≤ s.2 ∧ s.2 ≤ R.length ∧ (s.1.length : Int) = n ∧ ∀ v, 0 ≤ v → v < n → ix s.1 v = ((R.take s.2.toNat).countP fun f => decide (top order f = some v) : Nat), fun s => (R.length - s.2).toNat, ⟨Int.le_refl 0, Int.natCast_nonneg _, by simp; omega, fun v a b => by
    have : v.toNat < n.toNat := by omega
    simp [ix, this]⟩, ?_⟩
  rintro ⟨asks, x⟩ ⟨x0, x1, x2, x3⟩
  dsimp only at x0 x1 x2 x3
  dsimp only
  rw [List.length_map]
  refine fun _ => ⟨fun hlt => ?_, fun hge => ?_⟩
  · have hx := ix_get (xs := R) x0 hlt
    have hix : ix (R.map fun f => (top order f).getD (-1)) x = (top order (ix R x)).getD (-1) := ix_map x0 hlt
    have hin : In x (R.map fun f => (top order f).getD (-1)) := ⟨x0, by rw [List.length_map]; exact hlt⟩
    have e : ∀ v, (R.take (x + 1).toNat).countP (fun f => decide (top order f = some v)) = (R.take x.toNat).countP (fun f => decide (top order f = some v)) + (if top order (ix R x) = some v then 1 else 0) := fun v => by
      have : (x + 1).toNat = x.toNat + 1 := by omega
      rw [this, List.take_add_one, hx, List.countP_append]
      simp [List.countP_cons]
    rw [hix]
    refine ⟨fun a => (a.length : Int) = n ∧ ∀ v, 0 ≤ v → v < n → ix a v = ((R.take (x + 1).toNat).countP fun f => decide (top order f = some v) : Nat), fun a ⟨ha, hb⟩ => ⟨by unfold I64; omega, ⟨by (try dsimp only); omega, by (try dsimp only); omega, ha, hb⟩, by (try dsimp only); omega⟩, hin, fun _ => ⟨fun hpos => ?_, fun hneg => ?_⟩⟩
    · cases ht : top order (ix R x) with
      | none => rw [ht] at hpos; simp at hpos
      | some v =>
        have hvr := hom hp v (List.mem_of_find?_eq_some ht)
        have hv := x3 v hvr.1 hvr.2
        have hle : (R.take x.toNat).countP (fun f => decide (top order f = some v)) ≤ R.length := Nat.le_trans List.countP_le_length (by rw [List.length_take]; omega)
        refine ⟨hin, fun _ => ⟨hin, fun _ => ⟨⟨hvr.1, by rw [x2]; exact hvr.2⟩, fun _ => ⟨?_, ⟨hvr.1, by rw [x2]; exact hvr.2⟩, by simpa using x2, fun w a b => ?_⟩⟩⟩⟩
        · show I64 (ix asks v + 1); rw [hv]; unfold I64; omega
        · show ix (asks.set v.toNat (ix asks v + 1)) w = _
          rw [ix_set hvr.1 (by rw [x2]; exact hvr.2) a, e w, ht]
          by_cases hwv : w = v
          · subst hwv; rw [if_pos rfl, if_pos rfl, hv]; simp
          · rw [if_neg hwv, if_neg (fun h => hwv (Option.some.inj h).symm), x3 w a b]; simp
    · refine ⟨x2, fun w a b => ?_⟩
      have hnone : top order (ix R x) ≠ some w := fun ht => by rw [ht] at hneg; simp at hneg; omega
      rw [e w, if_neg hnone, x3 w a b]; simp
  · have hxl : x.toNat = R.length := by
      have : ¬ x < (R.length : Int) := hge
      omega
    rw [hxl, List.take_length] at x3
    have hc : ∀ v, 0 ≤ v → v < n → ix asks v = cntF order fs v := fun v a b => by
      rw [x3 v a b, (sizeList_of hn hm).cnt v, List.countP_filter]
      congr 1
      refine List.countP_congr fun f _ => ?_
      simp only [Bool.and_eq_true, decide_eq_true_eq]
      exact ⟨fun h => ⟨h, by rw [h]; rfl⟩, fun h => h.1⟩
    clear x3 hge x1 x0 hxl
    -- those that are done
    refine ⟨⟨h0, by omega, by omega⟩, fun s => 0 ≤ s.2.2 ∧ s.2.2 ≤ n ∧ (s.2.1.length : Int) = n ∧ ∃ vs : List Int, (vs.length : Int) = s.2.2 ∧ vs.Nodup ∧ (∀ v ∈ vs, 0 ≤ v ∧ v < n) ∧ s.1 = vs.foldl (siftVar fs) order ∧ (∀ v, 0 ≤ v → v < n → (ix s.2.1 v = true ↔ v ∈ vs)) ∧ vs.Pairwise (Bf fun v => cntF order fs v) ∧ (∀ a ∈ vs, ∀ b, 0 ≤ b → b < n → b ∉ vs → Bf (fun v => cntF order fs v) a b),
      fun s => (n - s.2.2).toNat, ⟨Int.le_refl 0, h0, by simp; omega, [], rfl, List.nodup_nil, fun _ h => (by cases h), rfl, fun v a b => by
        have : v.toNat < n.toNat := by omega
        simp [ix, this], List.Pairwise.nil, fun _ h => by cases h⟩, ?_⟩
    rintro ⟨o, done, q⟩ ⟨q0, q1, hd, vs, v1, v2, v3, v4, v5, v6, v7⟩
    dsimp only at q0 q1 hd v1 v4 v5
    subst v4
    dsimp only
    have hpo := hp.fold (fs := fs) v3
    refine ⟨fun hlt => ?_, fun hge => ?_⟩
    · -- the next
      have hlt : q < n := hlt
      refine ⟨fun s => 0 ≤ s.2 ∧ s.2 ≤ n ∧ ((s.1 = -1 ∧ ∀ j, 0 ≤ j → j < s.2 → j ∈ vs) ∨ (0 ≤ s.1 ∧ s.1 < s.2 ∧ s.1 ∉ vs ∧ ∀ j, 0 ≤ j → j < s.2 → j ∉ vs → j = s.1 ∨ Bf (fun v => cntF order fs v) s.1 j)), fun s => (n - s.2).toNat, ⟨Int.le_refl 0, h0, .inl ⟨rfl, fun j a b => by (try dsimp only at b); omega⟩⟩, ?_⟩
      rintro ⟨v, i⟩ ⟨i0, i1, hinv⟩
      dsimp only at i0 i1 hinv
      dsimp only
      refine ⟨fun hilt => ?_, fun hige => ?_⟩
      · have hilt : i < n := hilt
        refine ⟨fun v' => (v' = -1 ∧ ∀ j, 0 ≤ j → j < i + 1 → j ∈ vs) ∨ (0 ≤ v' ∧ v' < i + 1 ∧ v' ∉ vs ∧ ∀ j, 0 ≤ j → j < i + 1 → j ∉ vs → j = v' ∨ Bf (fun v => cntF order fs v) v' j), fun v' hv' => ⟨by unfold I64; omega, ⟨by (try dsimp only); omega, by (try dsimp only); omega, hv'⟩, by (try dsimp only); omega⟩, ?_⟩
        have hdi := v5 i i0 hilt
        refine ⟨fun b => b = decide (i ∉ vs ∧ (v < 0 ∨ cntF order fs v < cntF order fs i)), fun b hb => ⟨fun ht => ?_, fun ht => ?_⟩, ⟨i0, by rw [hd]; exact hilt⟩, fun hnd => ⟨fun hvn => ?_, fun hvp => ?_⟩, fun hdn => ?_⟩
        · rw [hb] at ht
          obtain ⟨ht1, ht2⟩ := of_decide_eq_true ht
          refine .inr ⟨i0, by omega, ht1, fun j a b hj => ?_⟩
          by_cases hji : j = i
          · exact .inl hji
          · right
            rcases hinv with ⟨_, hall⟩ | ⟨hv0, hvi, hvn, hall⟩
            · exact absurd (hall j a (by omega)) hj
            · have hlt2 := ht2.resolve_left (by omega)
              have hiv : Bf (fun v => cntF order fs v) i v := .inl (by (try dsimp only); omega)
              rcases hall j a (by omega) hj with rfl | hb'
              · exact hiv
              · exact hiv.trans hb'
        · rw [hb] at ht
          have ht := of_decide_eq_false ht
          rcases hinv with ⟨hv1, hall⟩ | ⟨hv0, hvi, hvn, hall⟩
          · refine .inl ⟨hv1, fun j a b => ?_⟩
            by_cases hji : j = i
            · subst hji; exact Classical.byContradiction fun h => ht ⟨h, .inl (by omega)⟩
            · exact hall j a (by omega)
          · refine .inr ⟨hv0, by omega, hvn, fun j a b hj => ?_⟩
            by_cases hji : j = i
            · subst hji
              right
              have : ¬ cntF order fs v < cntF order fs j := fun h => ht ⟨hj, .inr h⟩
              unfold Bf; (try dsimp only); omega
            · exact hall j a (by omega) hj
        · have hni : i ∉ vs := fun h => by rw [hdi.2 h] at hnd; cases hnd
          have hvn : v < 0 := hvn
          simp [hni, hvn]
        · have hvp : ¬ v < 0 := hvp
          have hni : i ∉ vs := fun h => by rw [hdi.2 h] at hnd; cases hnd
          have hv : 0 ≤ v ∧ v < n := by rcases hinv with h | h <;> omega
          refine ⟨⟨i0, by rw [x2]; exact hilt⟩, fun _ => ⟨⟨hv.1, by rw [x2]; exact hv.2⟩, fun _ => ?_⟩⟩
          show decide (ix asks v < ix asks i) = _
          rw [hc v hv.1 hv.2, hc i i0 hilt, decide_eq_decide]
          constructor
          · intro h; exact ⟨hni, .inr (by omega)⟩
          · rintro ⟨_, h⟩; omega
        · have hyi : i ∈ vs := hdi.1 (by simpa using hdn)
          simp [hyi]
      · have hin : i = n := by
          have : ¬ i < n := hige
          omega
        subst hin
        have hv : 0 ≤ v ∧ v < i ∧ v ∉ vs ∧ ∀ j, 0 ≤ j → j < i → j ∉ vs → j = v ∨ Bf (fun v => cntF order fs v) v j := by
          rcases hinv with ⟨_, hall⟩ | h
          · exfalso
            have := nodup_sub_len (l := dn i.toNat) (m := vs) (dn_nodup _) fun j hj => by
              have := mem_dn.1 hj
              exact hall j (by omega) (by omega)
            have hdl : ∀ m, (dn m).length = m := fun m => by induction m with
              | zero => rfl
              | succ m ih => simp [dn, ih]
            rw [hdl] at this; omega
          · exact h
        obtain ⟨hv0, hvn, hvv, hvb⟩ := hv
        have hpl := hpo.len h0
        refine ⟨⟨hv0, by rw [hd]; exact hvn⟩, without_ok (hol hpo) ?_⟩
        generalize ho : vs.foldl (siftVar fs) order = o at hpo hpl ⊢
        generalize hrest : wout o v = rest
        have hins : ∀ p, Prm i (ins rest v p) := fun p => by rw [← hrest]; exact hpo.ins ⟨hv0, hvn⟩ p
        have hrl : (rest.length : Int) + 1 = i := by have := (hins 0).len h0; rw [ins_length] at this; omega
        let g : Nat → Nat := fun p => szF (ins rest v p) fs
        refine ⟨fun s => 0 ≤ s.2.2 ∧ s.2.2 ≤ i ∧ ((s.2.2 = 0 ∧ s.2.1 = -1) ∨ (∃ p : Nat, s.2.2 = p + 1 ∧ s.1 = ins rest v (am g p) ∧ s.2.1 = (g (am g p) : Nat))), fun s => (i - s.2.2).toNat, ⟨Int.le_refl 0, h0, .inl ⟨rfl, rfl⟩⟩, ?_⟩
        rintro ⟨o', best, p⟩ ⟨p0, p1, hbp⟩
        dsimp only at p0 p1 hbp
        dsimp only
        refine ⟨fun hplt => ?_, fun hpge => ?_⟩
        · have hplt : p < i := hplt
          obtain ⟨pn, rfl⟩ := Int.eq_ofNat_of_zero_le p0
          refine ⟨fun s => s.1 = ins rest v (am g pn) ∧ s.2 = (g (am g pn) : Nat), fun ⟨o2, b2⟩ ⟨ha, hb⟩ => ⟨by unfold I64; omega, ⟨by (try dsimp only); omega, by (try dsimp only); omega, .inr ⟨pn, rfl, ha, hb⟩⟩, by (try dsimp only); omega⟩, rat_ok (by omega) p0 (by omega) ?_⟩
          rw [Int.toNat_natCast]
          refine rSize_ok h0 h9 hs hl (hom (hins pn)) (hol (hins pn)) ?_
          have hg : szF (ins rest v pn) fs = g pn := rfl
          rw [hg]
          rcases hbp with ⟨hp0, hb⟩ | ⟨m, hpm, ho', hb⟩
          · obtain rfl : pn = 0 := by omega
            subst hb
            exact ⟨fun _ => ⟨rfl, rfl⟩, fun h => absurd (.inl (by omega)) h⟩
          · obtain rfl : pn = m + 1 := by omega
            subst hb
            refine ⟨fun h => ?_, fun h => ?_⟩
            · have : g (m + 1) < g (am g m) := by
                have h : ((g (am g m) : Nat) : Int) < 0 ∨ ((g (m + 1) : Nat) : Int) < ((g (am g m) : Nat) : Int) := h
                omega
              exact ⟨by simp [am, this], by simp [am, this]⟩
            · have : ¬ g (m + 1) < g (am g m) := fun h' => h (.inr (by (try dsimp only); omega))
              exact ⟨by simp [am, this]; exact ho', by simp [am, this]⟩
        · have hpe : p = i := by
            have : ¬ p < i := hpge
            omega
          subst hpe
          rcases hbp with ⟨hp0, _⟩ | ⟨m, hpm, ho', _⟩
          · omega
          · obtain rfl : m = rest.length := by omega
            have hsv : o' = siftVar fs o v := by unfold siftVar; rw [hrest]; exact ho'
            refine ⟨by unfold I64; omega, ⟨by (try dsimp only); omega, by (try dsimp only); omega, by simpa using hd, vs ++ [v], by (try dsimp only); simp; omega, ?_, fun w hw => ?_, ?_, fun w a b => ?_, ?_, fun a ha b b0 b1 hb => ?_⟩, by (try dsimp only); omega⟩
            · rw [List.nodup_append]; exact ⟨v2, by simp, fun a ha b hb e => hvv (by simp at hb; rw [← hb, ← e]; exact ha)⟩
            · rcases List.mem_append.1 hw with hw | hw
              · exact v3 w hw
              · simp at hw; subst hw; exact ⟨hv0, hvn⟩
            · rw [List.foldl_append, ho]; exact hsv
            · (try dsimp only)
              rw [ix_set hv0 (by rw [hd]; exact hvn) a, List.mem_append, List.mem_singleton]
              by_cases hwv : w = v
              · rw [if_pos hwv]; exact ⟨fun _ => .inr hwv, fun _ => rfl⟩
              · rw [if_neg hwv, v5 w a b]; exact ⟨.inl, fun h => h.resolve_right hwv⟩
            · rw [List.pairwise_append]
              exact ⟨v6, by simp, fun a ha b hb => by simp at hb; subst hb; exact v7 a ha b hv0 hvn hvv⟩
            · rw [List.mem_append, not_or] at hb
              rcases List.mem_append.1 ha with ha | ha
              · exact v7 a ha b b0 b1 hb.1
              · simp at ha; subst ha
                exact (hvb b b0 b1 hb.1).resolve_left fun e => hb.2 (by simp [e])
    · have hqn : q = n := by
        have : ¬ q < n := hge
        omega
      subst hqn
      refine k vs ⟨v6, fun x => ⟨v3 x, fun hx => Classical.byContradiction fun hnx => ?_⟩⟩
      have := nodup_sub_len (l := x :: vs) (m := dn q.toNat) (List.nodup_cons.2 ⟨hnx, v2⟩) fun y hy => by
        rcases List.mem_cons.1 hy with rfl | hy
        · exact mem_dn.2 (by omega)
        · exact mem_dn.2 (by have := v3 y hy; omega)
      have hdl : ∀ m, (dn m).length = m := fun m => by induction m with
        | zero => rfl
        | succ m ih => simp [dn, ih]
      rw [hdl] at this; simp at this; omega
end Go.Vc
