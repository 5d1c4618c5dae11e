/- Functions in plain words: the canonical pairs, and that the program makes them. No program in sight. -/
import Derived.Test.YtlhkfkecoekoeaaGreatDoorPlainV7
set_option linter.unusedVariables false
set_option linter.unusedSimpArgs false
namespace Go.Vc
abbrev VP := Val × Val
def insP (k v : Val) : List VP → List VP
  | [] => [(k, v)]
  | b :: l => if cmpV k b.1 < 0 then (k, v) :: b :: l else if cmpV k b.1 = 0 then b :: l else b :: insP k v l
def canonP (ps : List VP) : List VP := ps.foldl (fun s p => insP p.1 p.2 s) []
def funA (k v : List Val) : Val := if 1 + wtL k + wtL v ≤ 1024 then .fn k v (1 + wtL k + wtL v) else .nil
def funV (k v : List Val) : Val := funA ((canonP (k.zip v)).map (·.1)) ((canonP (k.zip v)).map (·.2))
def AscP (l : List VP) : Prop := l.Pairwise fun a b => cmpV a.1 b.1 < 0
def HvP (l : List VP) : Prop := ∀ p ∈ l, Hv p.1
def FirstIn (ps : List VP) (p : VP) : Prop := ∃ A B, ps = A ++ p :: B ∧ ∀ q ∈ A, q.1 ≠ p.1
theorem FirstIn.snoc {ps : List VP} {q p : VP} : FirstIn (ps ++ [q]) p ↔ FirstIn ps p ∨ (p = q ∧ ∀ r ∈ ps, r.1 ≠ q.1) := by
  constructor
  · rintro ⟨A, B, e, h⟩
    by_cases hB : B = []
    · subst hB
      have := List.append_inj' (s₁ := ps) (t₁ := [q]) (s₂ := A) (t₂ := [p]) e rfl
      simp at this
      obtain ⟨rfl, rfl⟩ := this
      exact Or.inr ⟨rfl, h⟩
    · obtain ⟨B', b, rfl⟩ := snoc_split hB
      have e' : ps ++ [q] = (A ++ p :: B') ++ [b] := by rw [e]; simp
      have := (List.append_inj' e' rfl).1
      exact Or.inl ⟨A, B', this, h⟩
  · rintro (⟨A, B, rfl, h⟩ | ⟨rfl, h⟩)
    · exact ⟨A, B ++ [q], by simp, h⟩
    · exact ⟨ps, [], rfl, h⟩
theorem insP_mem {k v : Val} (hk : Hv k) : ∀ {l : List VP}, HvP l → AscP l → ∀ p, p ∈ insP k v l ↔ p ∈ l ∨ (p = (k, v) ∧ ∀ q ∈ l, q.1 ≠ k)
  | [], _, _, p => by simp [insP]
  | b :: l, h, ha, p => by
    have ha' := List.pairwise_cons.1 ha
    simp only [insP]; split
    · rename_i h1
      have hne : ∀ q ∈ b :: l, q.1 ≠ k := fun q hq e => by
        rcases List.mem_cons.1 hq with rfl | hq
        · rw [e] at h1; exact asc_irr h1
        · have := cmpV_trans h1 (ha'.1 q hq); rw [e] at this; exact asc_irr this
      constructor
      · intro hp
        rcases List.mem_cons.1 hp with rfl | hp
        · exact Or.inr ⟨rfl, hne⟩
        · exact Or.inl hp
      · rintro (hp | ⟨rfl, _⟩)
        · exact List.mem_cons_of_mem _ hp
        · exact List.mem_cons_self ..
    · split
      · rename_i h1 h0
        have := cmpV_eq hk (h b (by simp)) h0
        constructor
        · exact Or.inl
        · rintro (hp | ⟨_, hq⟩)
          · exact hp
          · exact absurd this.symm (hq b (by simp))
      · rename_i h1 h0
        have hb : b.1 ≠ k := fun e => h0 (by rw [e]; exact cmpV_refl k)
        have ih := insP_mem (v := v) hk (fun q hq => h q (List.mem_cons_of_mem _ hq)) ha'.2 p
        constructor
        · intro hp
          rcases List.mem_cons.1 hp with rfl | hp
          · exact Or.inl (List.mem_cons_self ..)
          · rcases ih.1 hp with hp | ⟨rfl, hq⟩
            · exact Or.inl (List.mem_cons_of_mem _ hp)
            · refine Or.inr ⟨rfl, fun q hm => ?_⟩
              rcases List.mem_cons.1 hm with rfl | hm
              · exact hb
              · exact hq q hm
        · rintro (hp | ⟨rfl, hq⟩)
          · rcases List.mem_cons.1 hp with rfl | hp
            · exact List.mem_cons_self ..
            · exact List.mem_cons_of_mem _ (ih.2 (Or.inl hp))
          · exact List.mem_cons_of_mem _ (ih.2 (Or.inr ⟨rfl, fun q hm => hq q (List.mem_cons_of_mem _ hm)⟩))
theorem insP_hv {k v : Val} (hk : Hv k) : ∀ {l : List VP}, HvP l → HvP (insP k v l)
  | [], _ => by intro p hp; simp [insP] at hp; subst hp; exact hk
  | b :: l, h => by
    intro p hp
    simp only [insP] at hp
    split at hp
    · rcases List.mem_cons.1 hp with rfl | hp
      · exact hk
      · exact h p hp
    · split at hp
      · exact h p hp
      · rcases List.mem_cons.1 hp with rfl | hp
        · exact h _ (by simp)
        · exact insP_hv hk (fun q hq => h q (List.mem_cons_of_mem _ hq)) p hp
theorem insP_asc {k v : Val} (hk : Hv k) : ∀ {l : List VP}, HvP l → AscP l → AscP (insP k v l)
  | [], _, _ => by simp [insP, AscP]
  | b :: l, h, hs => by
    have hs' := List.pairwise_cons.1 hs
    have h' : HvP l := fun q hq => h q (List.mem_cons_of_mem _ hq)
    simp only [insP]; split
    · rename_i h1
      exact List.pairwise_cons.2 ⟨fun x hx => by
        rcases List.mem_cons.1 hx with rfl | hx
        · exact h1
        · exact cmpV_trans h1 (hs'.1 x hx), hs⟩
    · rename_i h1
      split
      · exact hs
      · rename_i h2
        have h3 : cmpV b.1 k < 0 := by rw [cmpV_neg k b.1]; omega
        refine List.pairwise_cons.2 ⟨fun x hx => ?_, insP_asc hk h' hs'.2⟩
        rcases (insP_mem hk h' hs'.2 x).1 hx with hx | ⟨rfl, _⟩
        · exact hs'.1 x hx
        · exact h3
theorem canonP_from : ∀ (r : List VP), HvP r → ∀ {ps s : List VP}, HvP ps → HvP s → AscP s → (∀ p, p ∈ s ↔ FirstIn ps p) → (∀ q ∈ ps, ∃ p ∈ s, p.1 = q.1) →
    AscP (r.foldl (fun s p => insP p.1 p.2 s) s) ∧ ∀ p, p ∈ r.foldl (fun s p => insP p.1 p.2 s) s ↔ FirstIn (ps ++ r) p
  | [], _, ps, s, _, _, h2, h3, _ => by rw [List.append_nil]; exact ⟨h2, h3⟩
  | q :: r, hr, ps, s, h0, h1, h2, h3, h4 => by
    have hq := hr q (by simp)
    have e : ps ++ q :: r = (ps ++ [q]) ++ r := by simp
    rw [e]
    have sq : ∀ x ∈ s, ∃ p ∈ ps, p.1 = x.1 := fun x hx => by
      obtain ⟨A, B, rfl, _⟩ := (h3 x).1 hx; exact ⟨x, by simp, rfl⟩
    refine canonP_from r (fun p hp => hr p (List.mem_cons_of_mem _ hp)) (ps := ps ++ [q]) ?_ (insP_hv hq h1) (insP_asc hq h1 h2) (fun p => ?_) (fun p hp => ?_)
    · intro p hp
      rcases List.mem_append.1 hp with hp | hp
      · exact h0 p hp
      · rw [List.mem_singleton.1 hp]; exact hq
    · rw [insP_mem hq h1 h2, FirstIn.snoc, h3]
      constructor
      · rintro (h | ⟨rfl, h⟩)
        · exact Or.inl h
        · exact Or.inr ⟨rfl, fun r hr e => by obtain ⟨p, hp, e2⟩ := h4 r hr; exact h p hp (e2.trans e)⟩
      · rintro (h | ⟨rfl, h⟩)
        · exact Or.inl h
        · exact Or.inr ⟨rfl, fun r hr e => by obtain ⟨p, hp, e2⟩ := sq r hr; exact h p hp (e2.trans e)⟩
    · by_cases hx : ∃ x ∈ s, x.1 = p.1
      · obtain ⟨x, hx, e⟩ := hx
        exact ⟨x, (insP_mem hq h1 h2 x).2 (Or.inl hx), e⟩
      · rcases List.mem_append.1 hp with hp | hp
        · exact absurd (h4 p hp) hx
        · obtain rfl := List.mem_singleton.1 hp
          exact ⟨(p.1, p.2), (insP_mem hq h1 h2 _).2 (Or.inr ⟨rfl, fun x hm e => hx ⟨x, hm, e⟩⟩), rfl⟩
theorem canonP_asc {ps : List VP} (h : HvP ps) : AscP (canonP ps) := (canonP_from ps h (ps := []) (s := []) (fun _ h => by cases h) (fun _ h => by cases h) List.Pairwise.nil (fun p => by simp [FirstIn]) (fun _ h => by cases h)).1
theorem canonP_mem {ps : List VP} (h : HvP ps) (p : VP) : p ∈ canonP ps ↔ FirstIn ps p := by
  have := (canonP_from ps h (ps := []) (s := []) (fun _ h => by cases h) (fun _ h => by cases h) List.Pairwise.nil (fun p => by simp [FirstIn]) (fun _ h => by cases h)).2 p
  rw [List.nil_append] at this; exact this
theorem ascP_ext : ∀ {x y : List VP}, AscP x → AscP y → (∀ a, a ∈ x ↔ a ∈ y) → x = y
  | [], [], _, _, _ => rfl
  | [], b :: y, _, _, h => absurd ((h b).2 (by simp)) (by simp)
  | a :: x, [], _, _, h => absurd ((h a).1 (by simp)) (by simp)
  | a :: x, b :: y, hx, hy, h => by
    have hx' := List.pairwise_cons.1 hx
    have hy' := List.pairwise_cons.1 hy
    have hab : a = b := by
      rcases List.mem_cons.1 ((h a).1 (by simp)) with e | m1
      · exact e
      · rcases List.mem_cons.1 ((h b).2 (by simp)) with e | m2
        · exact e.symm
        · exact absurd (hx'.1 b m2) (asc_asym (hy'.1 a m1))
    subst hab
    rw [ascP_ext hx'.2 hy'.2 fun c => ⟨fun hc => ?_, fun hc => ?_⟩]
    · rcases List.mem_cons.1 ((h c).1 (by simp [hc])) with e | m
      · subst e; exact absurd (hx'.1 c hc) asc_irr
      · exact m
    · rcases List.mem_cons.1 ((h c).2 (by simp [hc])) with e | m
      · subst e; exact absurd (hy'.1 c hc) asc_irr
      · exact m
theorem canonP_of_asc {ps : List VP} (h : HvP ps) (ha : AscP ps) : canonP ps = ps := by
  refine ascP_ext (canonP_asc h) ha fun p => (canonP_mem h p).trans ⟨?_, fun hp => ?_⟩
  · rintro ⟨A, B, rfl, _⟩; simp
  · obtain ⟨A, B, rfl⟩ := List.append_of_mem hp
    refine ⟨A, B, rfl, fun q hq e => ?_⟩
    have := (List.pairwise_append.1 ha).2.2 q hq p (by simp)
    rw [e] at this; exact asc_irr this
section
variable {c vs : List Val}
def kp (c vs : List Val) : Option Int → List Int → List VP
  | _, [] => []
  | p, i :: r => if ∃ q, p = some q ∧ cmpV (ix c q) (ix c i) = 0 then kp c vs (some i) r else (ix c i, ix vs i) :: kp c vs (some i) r
theorem kp_some {q i : Int} {r : List Int} : kp c vs (some q) (i :: r) = if cmpV (ix c q) (ix c i) = 0 then kp c vs (some i) r else (ix c i, ix vs i) :: kp c vs (some i) r := by simp [kp]
theorem kp_none {i : Int} {r : List Int} : kp c vs none (i :: r) = (ix c i, ix vs i) :: kp c vs (some i) r := by simp [kp]
theorem ltI_le {i j : Int} (h : ltI c i j) : cmpV (ix c i) (ix c j) ≤ 0 := by rcases h with h | h <;> omega
theorem kp_gt : ∀ {r : List Int} {q : Int}, (q :: r).Pairwise (ltI c) → (∀ p ∈ kp c vs (some q) r, cmpV (ix c q) p.1 < 0) ∧ AscP (kp c vs (some q) r)
  | [], q, _ => by simp [kp, AscP]
  | i :: r, q, h => by
    have h' := List.pairwise_cons.1 h
    have h2 := kp_gt h'.2
    have hq := h'.1 i (by simp)
    rw [kp_some]; split
    · rename_i h0
      refine ⟨fun p hp => ?_, h2.2⟩
      have := h2.1 p hp
      by_cases h5 : cmpV (ix c q) p.1 < 0
      · exact h5
      · have e1 := cmpV_neg (ix c q) p.1
        have e2 := cmpV_neg (ix c i) p.1
        have e3 := cmpV_trans_le (a := p.1) (b := ix c q) (c := ix c i) (by omega) (by omega)
        omega
    · rename_i h0
      have h6 : cmpV (ix c q) (ix c i) < 0 := by have := ltI_le hq; omega
      refine ⟨fun p hp => ?_, List.pairwise_cons.2 ⟨h2.1, h2.2⟩⟩
      rcases List.mem_cons.1 hp with rfl | hp
      · exact h6
      · exact cmpV_trans h6 (h2.1 p hp)
theorem kp_asc : ∀ {d : List Int}, d.Pairwise (ltI c) → AscP (kp c vs none d)
  | [], _ => by simp [kp, AscP]
  | i :: r, h => by rw [kp_none]; have := kp_gt (vs := vs) h; exact List.pairwise_cons.2 this
theorem kp_mem : ∀ {r : List Int} {q : Int}, (q :: r).Pairwise (ltI c) → HvL c → (∀ i ∈ q :: r, In i c) → ∀ p, p ∈ kp c vs (some q) r ↔ ∃ i ∈ r, p = (ix c i, ix vs i) ∧ ix c q ≠ ix c i ∧ ∀ j ∈ r, j < i → ix c j ≠ ix c i
  | [], q, _, _, _, p => by simp [kp]
  | i :: r, q, h, hv, hin, p => by
    have h' := List.pairwise_cons.1 h
    have h'' := List.pairwise_cons.1 h'.2
    have ih := kp_mem h'.2 hv (fun j hj => hin j (List.mem_cons_of_mem _ hj)) p
    have hq := h'.1 i (by simp)
    have hvi : ∀ j ∈ q :: i :: r, Hv (ix c j) := fun j hj => HvL_iff.1 hv _ (ix_mem (hin j hj).1 (hin j hj).2)
    have key : ∀ j ∈ r, ix c i = ix c j → i < j := fun j hj e => by
      rcases h''.1 j hj with hl | hl
      · rw [e] at hl; exact absurd hl asc_irr
      · exact hl.2
    rw [kp_some]; split
    · rename_i h0
      have e0 := cmpV_eq (hvi q (by simp)) (hvi i (by simp)) h0
      rw [ih, e0]; constructor
      · rintro ⟨k, hk, e, hne, hj⟩
        refine ⟨k, by simp [hk], e, hne, fun j hj2 hlt => ?_⟩
        rcases List.mem_cons.1 hj2 with rfl | hj2
        · exact hne
        · exact hj j hj2 hlt
      · rintro ⟨k, hk, e, hne, hj⟩
        rcases List.mem_cons.1 hk with rfl | hk
        · exact absurd rfl hne
        · exact ⟨k, hk, e, hne, fun j hj2 hlt => hj j (by simp [hj2]) hlt⟩
    · rename_i h0
      have hne0 : ix c q ≠ ix c i := fun e => h0 (by rw [e]; exact cmpV_refl _)
      have hqr : ∀ k ∈ r, ix c q ≠ ix c k := fun k hk e => by
        have e1 := ltI_le hq
        have e2 := ltI_le (h''.1 k hk)
        rw [← e] at e2
        have := cmpV_neg (ix c q) (ix c i); omega
      rw [List.mem_cons, ih]; constructor
      · rintro (e | ⟨k, hk, e, hne, hj⟩)
        · refine ⟨i, by simp, e, hne0, fun j hj hlt e2 => ?_⟩
          rcases List.mem_cons.1 hj with rfl | hj
          · omega
          · have := key j hj e2.symm; omega
        · refine ⟨k, by simp [hk], e, hqr k hk, fun j hj2 hlt => ?_⟩
          rcases List.mem_cons.1 hj2 with rfl | hj2
          · exact hne
          · exact hj j hj2 hlt
      · rintro ⟨k, hk, e, hne, hj⟩
        rcases List.mem_cons.1 hk with rfl | hk
        · exact Or.inl e
        · exact Or.inr ⟨k, hk, e, fun e2 => hj i (by simp) (key k hk e2) e2, fun j hj2 hlt => hj j (by simp [hj2]) hlt⟩
theorem kp_none_mem {d : List Int} (h : d.Pairwise (ltI c)) (hv : HvL c) (hin : ∀ i ∈ d, In i c) (p : VP) : p ∈ kp c vs none d ↔ ∃ i ∈ d, p = (ix c i, ix vs i) ∧ ∀ j ∈ d, j < i → ix c j ≠ ix c i := by
  cases d with
  | nil => simp [kp]
  | cons i r =>
    have h' := List.pairwise_cons.1 h
    rw [kp_none, List.mem_cons, kp_mem h hv hin]
    have key : ∀ j ∈ r, ix c i = ix c j → i < j := fun j hj e => by
      rcases h'.1 j hj with hl | hl
      · rw [e] at hl; exact absurd hl asc_irr
      · exact hl.2
    constructor
    · rintro (e | ⟨k, hk, e, hne, hj⟩)
      · refine ⟨i, by simp, e, fun j hj hlt e2 => ?_⟩
        rcases List.mem_cons.1 hj with rfl | hj
        · omega
        · have := key j hj e2.symm; omega
      · refine ⟨k, by simp [hk], e, fun j hj2 hlt => ?_⟩
        rcases List.mem_cons.1 hj2 with rfl | hj2
        · exact hne
        · exact hj j hj2 hlt
    · rintro ⟨k, hk, e, hj⟩
      rcases List.mem_cons.1 hk with rfl | hk
      · exact Or.inl e
      · exact Or.inr ⟨k, hk, e, fun e2 => hj i (by simp) (key k hk e2) e2, fun j hj2 hlt => hj j (by simp [hj2]) hlt⟩
theorem zip_ix {i : Int} (h0 : 0 ≤ i) (h1 : i < c.length) (hl : c.length = vs.length) : (c.zip vs)[i.toNat]? = some (ix c i, ix vs i) := by
  have h2 : i.toNat < c.length := by omega
  have h3 : i.toNat < vs.length := by omega
  rw [List.getElem?_eq_getElem (by simp; omega)]; simp [ix, h2, h3]
theorem kp_canon {d : List Int} (hp : d.Perm (rgI 0 c.length)) (h : d.Pairwise (ltI c)) (hv : HvL c) (hl : c.length = vs.length) : kp c vs none d = canonP (c.zip vs) := by
  have hz : HvP (c.zip vs) := fun p hp => HvL_iff.1 hv _ (List.of_mem_zip hp).1
  have hin : ∀ i ∈ d, In i c := fun i hi => by have := rgI_mem.1 (hp.mem_iff.1 hi); exact ⟨this.1, this.2⟩
  refine ascP_ext (kp_asc h) (canonP_asc hz) fun p => (kp_none_mem h hv hin p).trans ((canonP_mem hz p).trans ?_).symm
  constructor
  · rintro ⟨A, B, e, hA⟩
    have hlen := congrArg List.length e
    simp at hlen
    have hi1 : ((A.length : Nat) : Int) < c.length := by omega
    have e1 := zip_ix (c := c) (vs := vs) (i := (A.length : Int)) (by omega) hi1 hl
    rw [e] at e1
    simp at e1
    refine ⟨A.length, hp.mem_iff.2 (rgI_mem.2 ⟨by omega, hi1⟩), e1, fun j hj hlt e2 => ?_⟩
    have hj' := rgI_mem.1 (hp.mem_iff.1 hj)
    have e3 := zip_ix (c := c) (vs := vs) hj'.1 hj'.2 hl
    rw [e, List.getElem?_append_left (by omega)] at e3
    have := hA _ (List.mem_of_getElem? e3)
    rw [e1] at this; exact this e2
  · rintro ⟨i, hi, rfl, hj⟩
    have hi' := rgI_mem.1 (hp.mem_iff.1 hi)
    have e1 := zip_ix (c := c) (vs := vs) hi'.1 hi'.2 hl
    obtain ⟨hlt, e2⟩ := List.getElem?_eq_some_iff.1 e1
    refine ⟨(c.zip vs).take i.toNat, (c.zip vs).drop (i.toNat + 1), ?_, fun q hq e => ?_⟩
    · rw [← e2, ← List.drop_eq_getElem_cons, List.take_append_drop]
    · obtain ⟨j, hjl, ej⟩ := mem_take.1 hq
      have e3 := zip_ix (c := c) (vs := vs) (i := (j : Int)) (by omega) (by omega) hl
      rw [Int.toNat_natCast, ej] at e3
      obtain rfl := Option.some.inj e3
      exact hj j (hp.mem_iff.2 (rgI_mem.2 ⟨by omega, by omega⟩)) (by omega) e
theorem room16 {k : Nat} (h : k ≤ 1000001) : Room k 16 := ⟨by omega, by unfold maxLen; omega⟩
theorem kp_mem_ix {d : List Int} {o : Option Int} {p : VP} (h : p ∈ kp c vs o d) : ∃ i ∈ d, p = (ix c i, ix vs i) := by
  induction d generalizing o with
  | nil => simp [kp] at h
  | cons i r ih =>
    simp only [kp] at h; split at h
    · obtain ⟨j, hj, e⟩ := ih h; exact ⟨j, by simp [hj], e⟩
    · rcases List.mem_cons.1 h with rfl | h
      · exact ⟨i, by simp, rfl⟩
      · obtain ⟨j, hj, e⟩ := ih h; exact ⟨j, by simp [hj], e⟩
theorem FunctionOf_ok {Q : Val → Prop} (hc : FitL c) (hvs : FitL vs) (hl : c.length = vs.length) (hn : c.length ≤ 1000000) (h : Q (funV c vs)) : V_FunctionOf c vs Q := by
  have hv := hc.hv
  have hvv := hvs.hv
  intro _
  refine ⟨⟨by omega, by omega, by omega⟩, fun _ => ?_⟩
  have en : ((c.length : Nat) : Int).toNat = c.length := by omega
  have el : ((List.replicate ((c.length : Nat) : Int).toNat (0 : Int)).length : Int) = c.length := by simp
  rw [el]
  refine ⟨fun s => 0 ≤ s.2 ∧ s.2 ≤ c.length ∧ s.1 = rgI 0 s.2 ++ List.replicate (c.length - s.2.toNat) 0, fun s => (c.length - s.2).toNat, ⟨by simp, by simp, by simp [rgI]⟩, ?_⟩
  rintro ⟨o, x⟩ ⟨x0, x1, e⟩
  simp only at x0 x1 e
  subst e
  refine ⟨fun hx => ⟨⟨x0, by simp [rgI_len]; omega⟩, by unfold I64; omega, ⟨by show 0 ≤ x + 1; omega, by show x + 1 ≤ _; omega, ?_⟩, by show ((c.length : Int) - (x + 1)).toNat < ((c.length : Int) - x).toNat; omega⟩, fun hx => ?_⟩
  · show (rgI 0 x ++ List.replicate (c.length - x.toNat) 0).set x.toNat x = rgI 0 (x + 1) ++ List.replicate (c.length - (x + 1).toNat) 0
    have e1 : c.length - x.toNat = (c.length - (x + 1).toNat) + 1 := by omega
    rw [e1, List.replicate_succ, set_app (by rw [rgI_len]; omega), rgI_app (lo := 0) (m := x) (hi := x + 1) (by omega) (by omega)]
    have : rgI x (x + 1) = [x] := by
      have : (x + 1 - x).toNat = 1 := by omega
      simp [rgI, this]
    rw [this]; simp
  have hx : x = c.length := by omega
  subst hx
  simp only [en, Nat.sub_self, List.replicate_zero, List.append_nil]
  refine SortSF_ok hv (by omega) fun d hp hs => ?_
  have hdl : d.length = c.length := by rw [hp.length_eq, rgI_len]; omega
  have hin : ∀ i ∈ d, In i c := fun i hi => by have := rgI_mem.1 (hp.mem_iff.1 hi); exact ⟨this.1, this.2⟩
  have hin2 : ∀ i ∈ d, In i vs := fun i hi => by have := hin i hi; exact ⟨this.1, by rw [← hl]; exact this.2⟩
  have hk := kp_canon hp hs hv hl
  have hvP : ∀ {o : Option Int} {e : List Int}, (∀ i ∈ e, i ∈ d) → 0 ≤ wtL ((kp c vs o e).map (·.1)) ∧ 0 ≤ wtL ((kp c vs o e).map (·.2)) := fun {o e} he => by
    constructor
    · have := HvL.nn (l := (kp c vs o e).map (·.1)) (HvL_iff.2 fun a ha => by
        obtain ⟨p, hp, rfl⟩ := List.mem_map.1 ha
        obtain ⟨i, hi, rfl⟩ := kp_mem_ix hp
        exact HvL_iff.1 hv _ (ix_mem (hin i (he i hi)).1 (hin i (he i hi)).2))
      omega
    · have := HvL.nn (l := (kp c vs o e).map (·.2)) (HvL_iff.2 fun a ha => by
        obtain ⟨p, hp, rfl⟩ := List.mem_map.1 ha
        obtain ⟨i, hi, rfl⟩ := kp_mem_ix hp
        exact HvL_iff.1 hvv _ (ix_mem (hin2 i (he i hi)).1 (hin2 i (he i hi)).2))
      omega
  intro _
  refine ⟨fun s => 0 ≤ s.2.2.2 ∧ s.2.2.2 ≤ d.length ∧ s.1.length ≤ s.2.2.2 ∧ s.2.1.length = s.1.length ∧ s.2.2.1 = 1 + wtL s.1 + wtL s.2.1 ∧ 1 ≤ s.2.2.1 ∧ s.2.2.1 ≤ 1024 ∧ ∃ o, (s.2.2.2 = 0 → o = none) ∧ (0 < s.2.2.2 → o = some (ix d (s.2.2.2 - 1))) ∧ (canonP (c.zip vs)).map (·.1) = s.1 ++ (kp c vs o (d.drop s.2.2.2.toNat)).map (·.1) ∧ (canonP (c.zip vs)).map (·.2) = s.2.1 ++ (kp c vs o (d.drop s.2.2.2.toNat)).map (·.2), fun s => (d.length - s.2.2.2).toNat, ⟨by simp, by simp, by simp, by simp, by simp [wtL], by simp, by simp, none, by simp, by simp, by simp [hk], by simp [hk]⟩, ?_⟩
  rintro ⟨ks, us, w, x⟩ ⟨x0, x1, x2, x3, x4, x5, x6, o, o1, o2, o3, o4⟩
  simp only at x0 x1 x2 x3 x4 x5 x6 o1 o2 o3 o4
  refine ⟨fun hx => VMeet_go ?_, fun hx => ?_⟩
  · have hx : x < (d.length : Int) := hx
    have md := ix_mem x0 hx
    obtain ⟨i0, i1⟩ := hin _ md
    have i2 := (hin2 _ md).2
    have g1 := FitL_iff.1 hc _ (ix_mem i0 i1)
    have g2 := FitL_iff.1 hvs _ (ix_mem (l := vs) i0 i2)
    have dd := drop_ix x0 hx
    have wf : 0 ≤ wtL ((kp c vs (some (ix d x)) (d.drop (x + 1).toNat)).map (·.1)) ∧ 0 ≤ wtL ((kp c vs (some (ix d x)) (d.drop (x + 1).toNat)).map (·.2)) := hvP fun i hi => List.mem_of_mem_drop hi
    have keep : (0 < x → cmpV (ix c (ix d (x - 1))) (ix c (ix d x)) ≠ 0) → kp c vs o (d.drop x.toNat) = (ix c (ix d x), ix vs (ix d x)) :: kp c vs (some (ix d x)) (d.drop (x + 1).toNat) := fun hne => by
      rw [dd]
      by_cases hz : 0 < x
      · rw [o2 hz, kp_some, if_neg (hne hz)]
      · rw [o1 (by omega), kp_none]
    refine ⟨⟨x0, hx⟩, fun _ => VMeet_go ?_⟩
    have rest : (0 < x → cmpV (ix c (ix d (x - 1))) (ix c (ix d x)) ≠ 0) → V_Weight (ix c (ix d x)) fun r_1358 => V_Weight (ix vs (ix d x)) fun r_1361 => I64 (r_1358 + r_1361) ∧ I64 (w + (r_1358 + r_1361)) ∧ ((1024 : Int) < (w + (r_1358 + r_1361)) → Q Val.nil) ∧ (¬ ((1024 : Int) < (w + (r_1358 + r_1361))) → I64 (x + 1) ∧ ((fun s : List Val × List Val × Int × Int => 0 ≤ s.2.2.2 ∧ s.2.2.2 ≤ d.length ∧ s.1.length ≤ s.2.2.2 ∧ s.2.1.length = s.1.length ∧ s.2.2.1 = 1 + wtL s.1 + wtL s.2.1 ∧ 1 ≤ s.2.2.1 ∧ s.2.2.1 ≤ 1024 ∧ ∃ o, (s.2.2.2 = 0 → o = none) ∧ (0 < s.2.2.2 → o = some (ix d (s.2.2.2 - 1))) ∧ (canonP (c.zip vs)).map (·.1) = s.1 ++ (kp c vs o (d.drop s.2.2.2.toNat)).map (·.1) ∧ (canonP (c.zip vs)).map (·.2) = s.2.1 ++ (kp c vs o (d.drop s.2.2.2.toNat)).map (·.2)) (ks ++ [ix c (ix d x)], us ++ [ix vs (ix d x)], w + (r_1358 + r_1361), x + 1) ∧ ((d.length : Int) - (x + 1)).toNat < ((d.length : Int) - x).toNat)) := fun hne => by
      have hkp := keep hne
      refine weight_ok (weight_ok ?_)
      have a1 := g1.pos; have a2 := g1.le; have a3 := g2.pos; have a4 := g2.le
      rw [hkp] at o3 o4
      simp only [List.map_cons] at o3 o4
      refine ⟨by unfold I64; omega, by unfold I64; omega, fun hw => ?_, fun hw => ⟨by unfold I64; omega, ⟨by show 0 ≤ x + 1; omega, by show x + 1 ≤ _; omega, by simp; omega, by simp [x3], by simp [wtL_app, wtL]; omega, by show (1 : Int) ≤ w + _; omega, by show w + _ ≤ (1024 : Int); omega, some (ix d x), fun hz => absurd hz (by show ¬ x + 1 = 0; omega), fun _ => by show _ = some (ix d (x + 1 - 1)); rw [show x + 1 - 1 = x by omega], ?_, ?_⟩, by omega⟩⟩
      · unfold funV funA at h
        rw [o3, o4, if_neg (by simp only [wtL_app, wtL]; omega)] at h; exact h
      · rw [o3]; simp
      · rw [o4]; simp
    refine ⟨fun hx0 => ⟨by have : 0 < x := hx0; unfold I64; omega, ⟨by have : 0 < x := hx0; show 0 ≤ x - 1; omega, by show x - 1 < (d.length : Int); omega⟩, fun _ => ?_⟩, fun hx0 => ⟨fun hn => by simp at hn, fun _ => ⟨⟨i0, i1⟩, room16 (by simp; omega), ⟨i0, i2⟩, room16 (by simp; omega), ⟨i0, i1⟩, ⟨i0, i2⟩, rest (fun hz => absurd hz hx0)⟩⟩⟩
    have hx0 : 0 < x := hx0
    have mp := ix_mem (l := d) (i := x - 1) (by omega) (by omega)
    obtain ⟨p0, p1⟩ := hin _ mp
    refine ⟨⟨p0, p1⟩, ⟨i0, i1⟩, _, cmpV (ix c (ix d (x - 1))) (ix c (ix d x)), Compare_ok _ (Nat.lt_succ_self _) (HvL_iff.1 hv _ (ix_mem p0 p1)) g1.hv rfl, cmpV_i64 _ _, fun hd => ?_, fun hd => ⟨⟨i0, i1⟩, room16 (by simp; omega), ⟨i0, i2⟩, room16 (by simp; omega), ⟨i0, i1⟩, ⟨i0, i2⟩, rest (fun _ => by simpa using hd)⟩⟩
    have hd : cmpV (ix c (ix d (x - 1))) (ix c (ix d x)) = 0 := by simpa using hd
    have hkp : kp c vs o (d.drop x.toNat) = kp c vs (some (ix d x)) (d.drop (x + 1).toNat) := by
      rw [dd, o2 hx0, kp_some, if_pos hd]
    rw [hkp] at o3 o4
    exact ⟨by unfold I64; omega, ⟨by show 0 ≤ x + 1; omega, by show x + 1 ≤ _; omega, by show (ks.length : Int) ≤ x + 1; omega, x3, x4, x5, x6, some (ix d x), fun hz => absurd hz (by show ¬ x + 1 = 0; omega), fun _ => by show _ = some (ix d (x + 1 - 1)); rw [show x + 1 - 1 = x by omega], o3, o4⟩, by show ((d.length : Int) - (x + 1)).toNat < ((d.length : Int) - x).toNat; omega⟩
  · have hx : ¬ x < (d.length : Int) := hx
    have hx : x = d.length := by omega
    subst hx
    rw [List.drop_of_length_le (by omega)] at o3 o4
    simp [kp] at o3 o4
    unfold funV funA at h
    rw [o3, o4, if_pos (by omega), ← x4] at h; exact h
end
def nums (n : Nat) : List Val := (List.range n).map fun k : Nat => Val.num ((k : Int) + 1)
def seqV (l : List Val) : Val := funA (nums l.length) l
theorem nums_len {n : Nat} : (nums n).length = n := by simp [nums]
theorem cmp_num {a b : Int} : cmpV (.num a) (.num b) = cI a b := by simp [cmpV, enc, lc, cI]
theorem nums_asc {n : Nat} : Asc (nums n) := by
  refine List.Pairwise.map _ (fun a b h => ?_) (List.pairwise_lt_range)
  rw [cmp_num]; unfold cI; rw [if_pos (by omega)]; omega
theorem nums_fit {n : Nat} (hn : n ≤ 1000000) : FitL (nums n) := FitL_iff.2 fun a ha => by
  obtain ⟨k, hk, rfl⟩ := List.mem_map.1 ha
  have := List.mem_range.1 hk
  show I64 _; unfold I64; omega
theorem zip_fst {a b : List Val} (h : a.length = b.length) : (a.zip b).map (·.1) = a := by
  rw [List.map_fst_zip]; omega
theorem zip_snd {a b : List Val} (h : a.length = b.length) : (a.zip b).map (·.2) = b := by
  rw [List.map_snd_zip]; omega
theorem funV_asc {k v : List Val} (hk : HvL k) (ha : Asc k) (hl : k.length = v.length) : funV k v = funA k v := by
  have hz : HvP (k.zip v) := fun p hp => HvL_iff.1 hk _ (List.of_mem_zip hp).1
  have : AscP (k.zip v) := by
    have : ((k.zip v).map (·.1)).Pairwise fun a b => cmpV a b < 0 := by rw [zip_fst hl]; exact ha
    exact List.pairwise_map.1 this
  unfold funV; rw [canonP_of_asc hz this, zip_fst hl, zip_snd hl]
theorem SequenceOf_ok {l : List Val} {Q : Val → Prop} (hl : FitL l) (hn : l.length ≤ 1000000) (h : Q (seqV l)) : V_SequenceOf l Q := by
  intro _
  refine ⟨⟨by omega, by omega, by omega⟩, fun _ => ?_⟩
  have el : ((List.replicate ((l.length : Nat) : Int).toNat Val.nil).length : Int) = l.length := by simp
  rw [el]
  refine ⟨fun s => 0 ≤ s.2 ∧ s.2 ≤ l.length ∧ s.1 = nums s.2.toNat ++ List.replicate (l.length - s.2.toNat) Val.nil, fun s => (l.length - s.2).toNat, ⟨by simp, by simp, by simp [nums]⟩, ?_⟩
  rintro ⟨o, x⟩ ⟨x0, x1, e⟩
  simp only at x0 x1 e
  subst e
  refine ⟨fun hx => ⟨by unfold I64; omega, ⟨x0, by simp [nums_len]; omega⟩, by unfold I64; omega, ⟨by show 0 ≤ x + 1; omega, by show x + 1 ≤ _; omega, ?_⟩, by show ((l.length : Int) - (x + 1)).toNat < ((l.length : Int) - x).toNat; omega⟩, fun hx => ?_⟩
  · show (nums x.toNat ++ List.replicate (l.length - x.toNat) Val.nil).set x.toNat (Val.num (x + 1)) = nums (x + 1).toNat ++ List.replicate (l.length - (x + 1).toNat) Val.nil
    have e1 : l.length - x.toNat = (l.length - (x + 1).toNat) + 1 := by omega
    rw [e1, List.replicate_succ, set_app (by rw [nums_len]; omega), show (x + 1).toNat = x.toNat + 1 by omega]
    have : nums (x.toNat + 1) = nums x.toNat ++ [.num (x + 1)] := by simp [nums, List.range_succ]; omega
    rw [this]; simp
  · have hx : x = l.length := by omega
    subst hx
    simp only [Int.toNat_natCast, Nat.sub_self, List.replicate_zero, List.append_nil]
    refine FunctionOf_ok (nums_fit hn) hl nums_len (by rw [nums_len]; exact hn) ?_
    rw [funV_asc (nums_fit hn).hv nums_asc nums_len]; exact h
end Go.Vc
