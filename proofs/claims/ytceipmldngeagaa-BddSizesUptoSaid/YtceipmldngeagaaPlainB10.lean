/- The document's side in plain words, part 2: counts, first values, diagrams and their orders. No program in sight. -/
import Derived.Test.YtceipmldngeagaaPlainB9
set_option linter.unusedVariables false
set_option linter.unusedSimpArgs false
set_option linter.unusedSectionVars false
namespace Go.Vc
variable {n : Int} {order level : List Int}
def dn : Nat → List Int
  | 0 => []
  | m + 1 => (m : Int) :: dn m
theorem mem_dn : ∀ {m : Nat} {v : Int}, v ∈ dn m ↔ 0 ≤ v ∧ v < m
  | 0, v => by simp [dn] <;> omega
  | m + 1, v => by unfold dn; rw [List.mem_cons, mem_dn]; omega
theorem dn_nodup : ∀ m : Nat, (dn m).Nodup
  | 0 => by simp [dn]
  | m + 1 => by unfold dn; rw [List.nodup_cons, mem_dn]; exact ⟨by omega, dn_nodup m⟩
def ov (m : Nat) (k : Nat) (e : Env) : Env := fun v => if 0 ≤ v ∧ v < m then k.testBit v.toNat else e v
theorem count_ov : ∀ (m : Nat) (g : Fn) (e : Env), (List.range (2 ^ m)).countP (fun k => g (ov m k e)) = cnt (dn m) g e
  | 0, g, e => by
    have : ov 0 0 e = e := by funext v; unfold ov; rw [if_neg (by omega)]
    simp [dn, cnt, this]
  | m + 1, g, e => by
    have hr : List.range (2 ^ (m + 1)) = List.range (2 ^ m) ++ (List.range (2 ^ m)).map (2 ^ m + ·) := by
      rw [Nat.pow_succ, Nat.mul_two, List.range_add]
    show _ = cnt (dn m) g (upd e m false) + cnt (dn m) g (upd e m true)
    rw [hr, List.countP_append, List.countP_map, ← count_ov m g (upd e m false), ← count_ov m g (upd e m true)]
    refine congr (congrArg _ ?_) ?_
    · refine List.countP_congr fun k hk => ?_
      have hk := List.mem_range.1 hk
      have : ov (m + 1) k e = ov m k (upd e m false) := by
        funext v; unfold ov upd
        by_cases h : 0 ≤ v ∧ v < m
        · rw [if_pos (by omega), if_pos h]
        · rw [if_neg h]
          by_cases h2 : v = m
          · subst h2; rw [if_pos (by omega), if_pos rfl, Int.toNat_natCast, Nat.testBit_lt_two_pow hk]
          · rw [if_neg (by omega), if_neg h2]
      rw [this]
    · refine List.countP_congr fun k hk => ?_
      have hk := List.mem_range.1 hk
      have : ov (m + 1) (2 ^ m + k) e = ov m k (upd e m true) := by
        have hb : ∀ j, (2 ^ m + k).testBit j = if j < m then k.testBit j else (1 : Nat).testBit (j - m) := fun j => by
          have := Nat.testBit_two_pow_mul_add 1 hk j
          rw [Nat.mul_one] at this; exact this
        funext v; unfold ov upd
        by_cases h : 0 ≤ v ∧ v < m
        · rw [if_pos (by omega), if_pos h, hb, if_pos (by omega)]
        · rw [if_neg h]
          by_cases h2 : v = m
          · subst h2; rw [if_pos (by omega), if_pos rfl, Int.toNat_natCast, hb, if_neg (by omega), Nat.sub_self]; rfl
          · rw [if_neg (by omega), if_neg h2]
      simp only [Function.comp_apply, this]
theorem bits_ov {m k : Nat} (hk : k < 2 ^ m) : bits k = ov m k e0 := by
  funext v; unfold bits ov e0
  by_cases h : 0 ≤ v
  · by_cases h2 : v < m
    · simp [h, h2]
    · have : k < 2 ^ v.toNat := Nat.lt_of_lt_of_le hk (Nat.pow_le_pow_right (by omega) (by omega))
      simp [h, h2, Nat.testBit_lt_two_pow this]
  · simp [h]
theorem count_tt (ho : Ord n order level) {f : Fn} : (tt n f).countP id = cnt order f e0 := by
  have n0 := ho.n0
  have hp : order.Perm (dn n.toNat) := (List.perm_ext_iff_of_nodup ho.nodup (dn_nodup _)).2 fun v => by rw [ho.mem, mem_dn]; omega
  rw [cnt_perm hp, ← count_ov]
  unfold tt
  rw [List.countP_map]
  refine List.countP_congr fun k hk => ?_
  simp only [Function.comp_apply, id]
  rw [bits_ov (List.mem_range.1 hk)]
theorem count_zero {f : Fn} (hf : Sup n f) : (tt n f).countP id = 0 ↔ f = fun _ => false := by
  rw [List.countP_eq_zero]
  constructor
  · intro h
    refine tt_inj hf Sup.const (List.ext_getElem? fun k => ?_)
    unfold tt
    rw [List.getElem?_map, List.getElem?_map]
    by_cases hk : k < 2 ^ n.toNat
    · rw [List.getElem?_range hk]
      have := h (f (bits k)) (List.mem_map.2 ⟨k, List.mem_range.2 hk, rfl⟩)
      simpa using this
    · rw [List.getElem?_eq_none (by simpa using hk)]; rfl
  · rintro rfl a ha
    obtain ⟨k, _, rfl⟩ := List.mem_map.1 ha
    simp
theorem rCount_raw {l : List Bool} (hl : l.length ≤ 512) {Q : Int → Prop} (k : Q (l.countP id : Nat)) : V_rCount l Q := by
  refine ⟨fun s => 0 ≤ s.2 ∧ s.2 ≤ l.length ∧ s.1 = ((l.take s.2.toNat).countP id : Nat), fun s => (l.length - s.2).toNat, ⟨Int.le_refl 0, by (try dsimp only); omega, rfl⟩, ?_⟩
  rintro ⟨c, x⟩ ⟨x0, x1, x2⟩
  dsimp only at x0 x1 x2
  subst x2
  have hc : (l.take x.toNat).countP id ≤ l.length := Nat.le_trans List.countP_le_length (by rw [List.length_take]; omega)
  refine fun _ => ⟨fun hlt => ?_, fun hge => ?_⟩
  · try dsimp only at hlt
    have hx := ix_get x0 hlt
    have e : (l.take (x + 1).toNat).countP id = (l.take x.toNat).countP id + (if ix l x then 1 else 0) := by
      have : (x + 1).toNat = x.toNat + 1 := by omega
      rw [this, List.take_add_one, hx, List.countP_append]
      simp
    refine ⟨fun c => c = ((l.take (x + 1).toNat).countP id : Nat), fun c hc => ⟨by unfold I64; omega, ⟨by omega, by omega, hc⟩, by (try dsimp only); omega⟩, ⟨x0, hlt⟩, fun hb => ⟨by unfold I64; omega, ?_⟩, fun hb => ?_⟩
    · rw [e, if_pos hb]; simp
    · have : ix l x = false := hb
      rw [e, this]; simp
  · have : x.toNat = l.length := by
      have : ¬ x < (l.length : Int) := hge
      omega
    show Q (((l.take x.toNat).countP id : Nat) : Int)
    rw [this, List.take_length]; exact k
theorem rCount_ok (ho : Ord n order level) {f : Fn} {Q : Int → Prop} (k : Q (cnt order f e0 : Nat)) : V_rCount (tt n f) Q :=
  rCount_raw (by rw [tt_length]; exact (pow_n ho.n0 ho.n9).2) (by rw [count_tt ho]; exact k)
theorem rFirst_ok (ho : Ord n order level) {f : Fn} (hf : Sup n f) {Q : List Bool → Bool → Prop} (k0 : f = (fun _ => false) → Q [] false) (k1 : f ≠ (fun _ => false) → Q (frst n.toNat 0 f) true) : V_rFirst n (tt n f) Q := by
  have n0 := ho.n0; have n9 := ho.n9
  have hlen : ∀ f : Fn, (tt n f).length ≤ 512 := fun f => by rw [tt_length]; exact (pow_n n0 n9).2
  refine rCount_raw (hlen f) ⟨fun h => k0 ((count_zero hf).1 (by omega)), fun h => ?_⟩
  have hne : f ≠ fun _ => false := fun e => h (by rw [(count_zero hf).2 e]; rfl)
  refine ⟨fun s => 0 ≤ s.2.2 ∧ s.2.2 ≤ n ∧ ∃ F, Sup n F ∧ s.1 = tt n F ∧ (s.2.1.length : Int) = s.2.2 ∧ s.2.1 ++ frst (n - s.2.2).toNat s.2.2 F = frst n.toNat 0 f, fun s => (n - s.2.2).toNat, ⟨Int.le_refl 0, n0, f, hf, rfl, rfl, by simp⟩, ?_⟩
  rintro ⟨g, l, x⟩ ⟨x0, x1, F, hF, e, hl, hfr⟩
  dsimp only at x0 x1 e hl hfr
  subst e
  refine ⟨fun hlt => ?_, fun hge => ?_⟩
  · try dsimp only at hlt
    have hx : 0 ≤ x ∧ x < n := ⟨x0, hlt⟩
    have hm : (n - x).toNat = (n - (x + 1)).toNat + 1 := by omega
    rw [hm, frst_succ] at hfr
    refine rWith_ok n0 n9 hx (rCount_raw (hlen _) ?_)
    have hz := count_zero (hF.cof x false)
    refine ⟨fun g => ∃ F', Sup n F' ∧ g = tt n F' ∧ (l ++ [decide ((((tt n (cof F x false)).countP id : Nat) : Int) = 0)]) ++ frst (n - (x + 1)).toNat (x + 1) F' = frst n.toNat 0 f, fun g ⟨F', a, b, c⟩ => ⟨⟨by simp; omega, by simp; unfold maxLen; omega⟩, by unfold I64; omega, ⟨by (try dsimp only); omega, by (try dsimp only); omega, F', a, b, by simp; omega, c⟩, by (try dsimp only); omega⟩, fun h0 => ?_, fun h0 => ?_⟩
    · refine rWith_ok n0 n9 hx ⟨_, hF.cof x true, rfl, ?_⟩
      rw [if_pos (hz.1 (by omega))] at hfr
      rw [List.append_assoc, decide_eq_true h0]; exact hfr
    · rw [if_neg fun e => h0 (by rw [hz.2 e]; rfl)] at hfr
      exact ⟨_, hF.cof x false, rfl, by rw [List.append_assoc, decide_eq_false h0]; exact hfr⟩
  · have : ¬ x < n := hge
    have hz : (n - x).toNat = 0 := by omega
    rw [hz, frst_zero, List.append_nil] at hfr
    (try dsimp only)
    rw [hfr]; exact k1 hne
/-! ### Diagrams -/
open Classical in
noncomputable def adj (R : List Fn) (f : Fn) : List Fn := if f ∈ R then R else R ++ [f]
theorem adj_in {R : List Fn} {f : Fn} (h : f ∈ R) : adj R f = R := if_pos h
theorem adj_out {R : List Fn} {f : Fn} (h : f ∉ R) : adj R f = R ++ [f] := if_neg h
noncomputable def join (R M : List Fn) : List Fn := M.foldl adj R
theorem join_mem : ∀ {M R : List Fn} {f : Fn}, f ∈ join R M ↔ f ∈ R ∨ f ∈ M
  | [], R, f => by simp [join]
  | g :: M, R, f => by
    show f ∈ join (adj R g) M ↔ _
    rw [join_mem]
    by_cases h : g ∈ R
    · rw [adj_in h, List.mem_cons]
      constructor
      · rintro (h | h)
        · exact .inl h
        · exact .inr (.inr h)
      · rintro (h2 | rfl | h2)
        · exact .inl h2
        · exact .inl h
        · exact .inr h2
    · rw [adj_out h]
      simp only [List.mem_append, List.mem_cons, List.not_mem_nil, or_false]
      exact or_assoc
theorem join_nodup : ∀ {M R : List Fn}, R.Nodup → (join R M).Nodup
  | [], R, h => h
  | g :: M, R, h => by
    show (join (adj R g) M).Nodup
    refine join_nodup ?_
    by_cases hg : g ∈ R
    · rw [adj_in hg]; exact h
    · rw [adj_out hg, List.nodup_append]
      exact ⟨h, by simp, fun a ha b hb e => hg (by simp at hb; rw [← hb, ← e]; exact ha)⟩
theorem join_take : ∀ {M R : List Fn}, ∃ K, join R M = R ++ K
  | [], R => ⟨[], by simp [join]⟩
  | g :: M, R => by
    obtain ⟨K, hK⟩ := join_take (M := M) (R := adj R g)
    by_cases hg : g ∈ R
    · exact ⟨K, by show join (adj R g) M = _; rw [hK, adj_in hg]⟩
    · exact ⟨g :: K, by show join (adj R g) M = _; rw [hK, adj_out hg]; simp⟩
theorem ix_map {α β : Type} [Inhabited α] [Inhabited β] {f : α → β} {l : List α} {i : Int} (h0 : 0 ≤ i) (h1 : i < l.length) : ix (l.map f) i = f (ix l i) := by
  have a := ix_get h0 h1
  unfold ix at *
  rw [List.getD_eq_getElem?_getD, List.getElem?_map, a]; rfl
/-- Rows of functions that are of some few. -/
structure Row (n : Int) (fs R : List Fn) : Prop where
  nd : R.Nodup
  cl : ∀ f ∈ R, Cl fs f
theorem Row.sup {fs R : List Fn} (hs : ∀ f ∈ fs, Sup n f) (h : Row n fs R) : ∀ f ∈ R, Sup n f := fun f hf => (h.cl f hf).sup hs
theorem Row.len {fs R : List Fn} (h0 : 0 ≤ n) (h9 : n ≤ 9) (hs : ∀ f ∈ fs, Sup n f) (hl : fs.length ≤ 290000000) (h : Row n fs R) : R.length ≤ CAP := by
  have := Cl.count h0 hs h.nd h.cl
  have h3 : 3 ^ n.toNat ≤ 3 ^ 9 := Nat.pow_le_pow_right (by omega) (by omega)
  have h4 := Nat.mul_le_mul hl h3
  unfold CAP; omega
theorem Row.join {fs R M : List Fn} (h : Row n fs R) (hM : ∀ f ∈ M, Cl fs f) : Row n fs (join R M) := ⟨join_nodup h.nd, fun f hf => (join_mem.1 hf).elim (h.cl f) (hM f)⟩
theorem joined_ok (h0 : 0 ≤ n) (h9 : n ≤ 9) {fs R M : List Fn} (hs : ∀ f ∈ fs, Sup n f) (hl : fs.length ≤ 290000000) (hR : Row n fs R) (hM : ∀ f ∈ M, Cl fs f) {Q : List (List Bool) → Prop} (k : Q ((join R M).map (tt n))) : V_joined (R.map (tt n)) (M.map (tt n)) Q := by
  refine ⟨fun s => 0 ≤ s.2 ∧ s.2 ≤ M.length ∧ s.1 = (join R (M.take s.2.toNat)).map (tt n), fun s => (M.length - s.2).toNat, ⟨Int.le_refl 0, by (try dsimp only); omega, by simp [join]⟩, ?_⟩
  rintro ⟨row, i⟩ ⟨i0, i1, hrow⟩
  dsimp only at i0 i1 hrow
  subst hrow
  have hRi : Row n fs (join R (M.take i.toNat)) := hR.join fun f hf => hM f (List.mem_of_mem_take hf)
  have hlenR := hRi.len h0 h9 hs hl
  intro hLM
  rw [List.length_map]
  refine ⟨fun hlt => ?_, fun hge => ?_⟩
  · have hi := ix_get (xs := M) i0 hlt
    have hf := hM _ (List.mem_of_getElem? hi)
    have hsf := hf.sup hs
    have hMi : In i (M.map (tt n)) := ⟨i0, by rw [List.length_map]; exact hlt⟩
    have e : join R (M.take (i + 1).toNat) = adj (join R (M.take i.toNat)) (ix M i) := by
      have : (i + 1).toNat = i.toNat + 1 := by omega
      rw [this, List.take_add_one, hi]
      unfold Go.Vc.join
      rw [List.foldl_append]; rfl
    have hLMb : M.length ≤ 9223372036854775807 := by unfold Len at hLM; rw [List.length_map] at hLM; omega
    generalize join R (M.take i.toNat) = K at *
    refine ⟨fun row => row = (join R (M.take (i + 1).toNat)).map (tt n), fun row hrow => ⟨by unfold I64; omega, ⟨by (try dsimp only); omega, by (try dsimp only); omega, hrow⟩, by (try dsimp only); omega⟩, ?_⟩
    refine ⟨fun s => 0 ≤ s.2 ∧ s.2 ≤ K.length ∧ (s.1 = true → ix M i ∈ K) ∧ (s.1 = false → ∀ j : Nat, j < s.2.toNat → K[j]? ≠ some (ix M i)), fun s => (K.length - s.2).toNat, ⟨Int.le_refl 0, by (try dsimp only); omega, fun h => (by cases h), fun _ j hj => absurd hj (by simp)⟩, ?_⟩
    rintro ⟨there, x⟩ ⟨x0, x1, x2, x3⟩
    dsimp only at x0 x1 x2 x3
    rw [List.length_map]
    intro _
    refine ⟨fun hc => ⟨⟨x0, by rw [List.length_map]; exact hc.1⟩, hMi, ?_⟩, fun hc => ⟨fun hth => ⟨hMi, ⟨?_, ?_⟩, ?_⟩, fun hth => ?_⟩⟩
    · have hx := ix_get (xs := K) x0 hc.1
      have hxm := List.mem_of_getElem? hx
      rw [ix_map x0 hc.1, ix_map i0 hlt]
      have hff : there = false := by simpa using hc.2
      refine rSame_ok ⟨by unfold I64; unfold CAP at hlenR; omega, ⟨by (try dsimp only); omega, by have := hc.1; dsimp only at this ⊢; omega, fun h => ?_, fun h j hj => ?_⟩, by have := hc.1; dsimp only at this ⊢; omega⟩
      · have := tt_inj (hRi.sup hs _ hxm) hsf (of_decide_eq_true h)
        rw [← this]; exact hxm
      · by_cases hjx : j = x.toNat
        · subst hjx
          rw [hx]
          intro e'
          have e' := Option.some.inj e'
          have := of_decide_eq_false h
          exact this (by rw [e'])
        · exact x3 hff j (by omega)
    · simp; unfold CAP at hlenR; omega
    · simp; unfold CAP at hlenR; unfold maxLen; omega
    · have hff : there = false := by simpa using hth
      have hxl : ¬ x < (K.length : Int) := fun h => hc ⟨h, hth⟩
      have hni : ix M i ∉ K := fun hm => by
        obtain ⟨j, hj, e'⟩ := List.mem_iff_getElem.1 hm
        exact x3 hff j (by omega) (by rw [List.getElem?_eq_getElem hj, e'])
      rw [e, adj_out hni, ix_map i0 hlt]; simp
    · rw [e, adj_in (x2 (by simpa using hth))]
  · have : M.take i.toNat = M := List.take_of_length_le (by
      have : ¬ i < (M.length : Int) := hge
      omega)
    show Q ((join R (M.take i.toNat)).map (tt n))
    rw [this]; exact k
open Classical in
theorem Asked_ok (h0 : 0 ≤ n) (h9 : n ≤ 9) {fs : List Fn} {order : List Int} (hs : ∀ f ∈ fs, Sup n f) (hl : fs.length ≤ 290000000) (ho : ∀ v ∈ order, 0 ≤ v ∧ v < n) (hol : order.length ≤ 9) {Q : List Int → Prop}
    (k : ∀ R : List Fn, R.Nodup → (∀ f, f ∈ R ↔ RF order fs f) → R.length ≤ CAP → Q (R.map fun f => (top order f).getD (-1))) : V_Asked (fs.map (tt n)) order Q := by
  have hself : ∀ f ∈ fs, Cl fs f := fun f hf => Cl.self hf
  refine joined_ok h0 h9 (R := []) hs hl ⟨List.nodup_nil, fun _ h => by cases h⟩ hself ?_
  have key : ∀ {R : List Fn}, Row n fs R → R.length ≤ CAP := fun h => h.len h0 h9 hs hl
  refine ⟨fun s => 0 ≤ s.2.2 ∧ ∃ R : List Fn, Row n fs R ∧ s.2.2 ≤ R.length ∧ s.1 = R.map (tt n) ∧ (∀ f ∈ R, RF order fs f) ∧ (∀ f ∈ fs, f ∈ R) ∧ s.2.1 = (R.take s.2.2.toNat).map (fun f => (top order f).getD (-1)) ∧ (∀ g ∈ R.take s.2.2.toNat, ∀ v, top order g = some v → ∀ b, cof g v b ∈ R),
    fun s => CAP + 1 - s.2.2.toNat, ⟨Int.le_refl 0, join [] fs, Row.join ⟨List.nodup_nil, fun _ h => by cases h⟩ hself, Int.natCast_nonneg _, rfl, fun f hf => .base ((join_mem.1 hf).resolve_left (by simp)), fun f hf => join_mem.2 (.inr hf), by simp, fun g hg => by simp at hg⟩, ?_⟩
  rintro ⟨row, ask, x⟩ ⟨x0, R, hR, x1, hrow, hrf, hfs, hask, hcl⟩
  dsimp only at x0 x1 hrow hask hcl
  subst hrow hask
  have hRl := key hR
  dsimp only
  rw [List.length_map]
  refine fun _ => ⟨fun hlt => ?_, fun hge => ?_⟩
  · have hx := ix_get (xs := R) x0 hlt
    generalize hge : ix R x = g at hx
    have hgm := List.mem_of_getElem? hx
    have hgs := hR.sup hs g hgm
    have hin : In x (R.map (tt n)) := ⟨x0, by rw [List.length_map]; exact hlt⟩
    have hix : ix (R.map (tt n)) x = tt n g := by rw [ix_map x0 hlt, hge]
    have hx1 : (x + 1).toNat = x.toNat + 1 := by omega
    have htk : R.take (x + 1).toNat = R.take x.toNat ++ [g] := by rw [hx1, List.take_add_one, hx]; rfl
    rw [hix]
    refine ⟨fun s => ∃ R' : List Fn, Row n fs R' ∧ (∃ K, R' = R ++ K) ∧ s.1 = R'.map (tt n) ∧ (∀ f ∈ R', RF order fs f) ∧ s.2 = (R.take (x + 1).toNat).map (fun f => (top order f).getD (-1)) ∧ (∀ v, top order g = some v → ∀ b, cof g v b ∈ R'), ?_, ?_⟩
    · rintro ⟨row, ask⟩ ⟨R', a1, ⟨K, a2⟩, a3, a4, a5, a6⟩
      dsimp only at a3 a5
      subst a2
      have hl' := key a1
      refine ⟨by unfold I64; unfold CAP at hRl; omega, ⟨by (try dsimp only); omega, R ++ K, a1, by rw [List.length_append]; (try dsimp only); omega, a3, a4, fun f hf => List.mem_append_left _ (hfs f hf), ?_, ?_⟩, by (try dsimp only); omega⟩
      · (try dsimp only); rw [a5, List.take_append_of_le_length (by omega)]
      · (try dsimp only)
        rw [List.take_append_of_le_length (by omega), htk]
        intro g' hg' v hv b
        rcases List.mem_append.1 hg' with hg' | hg'
        · exact List.mem_append_left _ (hcl g' hg' v hv b)
        · simp at hg'; subst hg'; exact a6 v hv b
    · refine ⟨fun s => 0 ≤ s.2 ∧ s.2 ≤ order.length ∧ ((s.1 = -1 ∧ ∀ v ∈ order.take s.2.toNat, cof g v false = cof g v true) ∨ (0 ≤ s.1 ∧ top order g = some s.1)), fun s => (order.length - s.2).toNat, ⟨Int.le_refl 0, by (try dsimp only); omega, .inl ⟨rfl, fun v hv => by simp at hv⟩⟩, ?_⟩
      rintro ⟨a, i⟩ ⟨i0, i1, hinv⟩
      dsimp only at i0 i1 hinv
      refine fun _ => ⟨fun hc => ?_, fun hc => ?_⟩
      · obtain ⟨hilt, haneg⟩ := hc
        obtain ⟨ha, hno⟩ := hinv.resolve_right (by omega)
        have hv := ix_get (xs := order) i0 hilt
        generalize hve : ix order i = v at hv
        have hvm := ho v (List.mem_of_getElem? hv)
        have hi1 : (i + 1).toNat = i.toNat + 1 := by omega
        have htki : order.take (i + 1).toNat = order.take i.toNat ++ [v] := by rw [hi1, List.take_add_one, hv]; rfl
        refine ⟨fun a' => (a' = -1 ∧ ∀ v ∈ order.take (i + 1).toNat, cof g v false = cof g v true) ∨ (0 ≤ a' ∧ top order g = some a'), fun a' ha' => ⟨by unfold I64; omega, ⟨by (try dsimp only); omega, by (try dsimp only); omega, ha'⟩, by (try dsimp only); omega⟩, hin, ⟨i0, hilt⟩, fun _ => ?_⟩
        (try dsimp only)
        (try rw [hve])
        refine rHangs_ok h0 h9 hgs hvm ⟨fun hr => ⟨⟨i0, hilt⟩, fun _ => .inr ⟨hvm.1, ?_⟩⟩, fun hr => .inl ⟨ha, fun w hw => ?_⟩⟩
        · unfold top
          rw [List.find?_eq_some_iff_append]
          refine ⟨hr, order.take i.toNat, order.drop (i.toNat + 1), ?_, fun w hw => by simp [hno w hw]⟩
          rw [← drop_cons hv, List.take_append_drop]
        · rw [htki] at hw
          rcases List.mem_append.1 hw with hw | hw
          · exact hno w hw
          · simp at hw; subst hw
            exact Classical.not_not.1 (of_decide_eq_false hr)
      · have htop : a = (top order g).getD (-1) ∧ (0 ≤ a → top order g = some a) := by
          rcases hinv with ⟨ha, hno⟩ | ⟨ha, ht⟩
          · have hil : i.toNat = order.length := by
              have : ¬ i < (order.length : Int) := fun h => hc ⟨h, by show a < 0; omega⟩
              omega
            rw [hil, List.take_length] at hno
            have : top order g = none := by
              unfold top; rw [List.find?_eq_none]; intro v hv; simp [hno v hv]
            rw [this]; exact ⟨ha, fun h => by omega⟩
          · rw [ht]; exact ⟨rfl, fun _ => rfl⟩
        have hask : (R.take x.toNat).map (fun f => (top order f).getD (-1)) ++ [a] = (R.take (x + 1).toNat).map (fun f => (top order f).getD (-1)) := by
          rw [htk, List.map_append, htop.1]; rfl
        refine ⟨⟨?_, ?_⟩, fun hpos => ?_, fun hneg => ?_⟩
        · simp; unfold CAP at hRl; omega
        · simp; unfold CAP at hRl; unfold maxLen; omega
        · have ht := htop.2 hpos
          have hvr : 0 ≤ a ∧ a < n := ho a (List.mem_of_find?_eq_some ht)
          have hcl2 : ∀ f ∈ [cof g a false, cof g a true], Cl fs f := fun f hf => by
            simp at hf
            rcases hf with rfl | rfl <;> exact (hR.cl g hgm).cof _ _
          refine ⟨hin, rWith_ok h0 h9 hvr ⟨hin, rWith_ok h0 h9 hvr ?_⟩⟩
          have := joined_ok h0 h9 hs hl hR hcl2 (Q := fun r => ∃ R' : List Fn, Row n fs R' ∧ (∃ K, R' = R ++ K) ∧ r = R'.map (tt n) ∧ (∀ f ∈ R', RF order fs f) ∧ (R.take x.toNat).map (fun f => (top order f).getD (-1)) ++ [a] = (R.take (x + 1).toNat).map (fun f => (top order f).getD (-1)) ∧ (∀ v, top order g = some v → ∀ b, cof g v b ∈ R')) ⟨_, hR.join hcl2, join_take, rfl, fun f hf => ?_, hask, fun v hv b => ?_⟩
          · exact this
          · rcases join_mem.1 hf with hf | hf
            · exact hrf f hf
            · simp at hf
              rcases hf with rfl | rfl <;> exact .step (hrf g hgm) ht
          · rw [ht] at hv
            obtain rfl := Option.some.inj hv
            exact join_mem.2 (.inr (by cases b <;> simp))
        · refine ⟨R, hR, ⟨[], by simp⟩, rfl, hrf, hask, fun v hv b => ?_⟩
          exfalso
          have := ho v (List.mem_of_find?_eq_some hv)
          rw [hv] at htop
          have := htop.1
          simp at this; omega
  · have hxl : x.toNat = R.length := by
      have : ¬ x < (R.length : Int) := hge
      omega
    show Q ((R.take x.toNat).map fun f => (top order f).getD (-1))
    rw [hxl, List.take_length] at hcl ⊢
    refine k R hR.nd (fun f => ⟨hrf f, fun h => ?_⟩) hRl
    induction h with
    | base h => exact hfs _ h
    | step _ ht ih => exact hcl _ ih _ ht _
open Classical in
theorem sizeList_of {order : List Int} {fs R : List Fn} (hn : R.Nodup) (hm : ∀ f, f ∈ R ↔ RF order fs f) : SizeList order fs (R.filter fun f => (top order f).isSome) :=
  ⟨hn.sublist List.filter_sublist, fun f => by rw [List.mem_filter, hm f]⟩
theorem top_ge {order : List Int} (ho : ∀ v ∈ order, 0 ≤ v ∧ v < n) {f : Fn} : 0 ≤ (top order f).getD (-1) ↔ (top order f).isSome = true := by
  cases h : top order f with
  | none => simp
  | some v => have := ho v (List.mem_of_find?_eq_some h); simp; omega
theorem rSize_ok (h0 : 0 ≤ n) (h9 : n ≤ 9) {fs : List Fn} {order : List Int} (hs : ∀ f ∈ fs, Sup n f) (hl : fs.length ≤ 290000000) (ho : ∀ v ∈ order, 0 ≤ v ∧ v < n) (hol : order.length ≤ 9) {Q : Int → Prop} (k : Q (szF order fs)) : V_rSize (fs.map (tt n)) order Q := by
  refine Asked_ok h0 h9 hs hl ho hol fun R hn hm hcap => ?_
  have hsz := (sizeList_of hn hm).sz
  rw [← List.countP_eq_length_filter] at hsz
  unfold CAP at hcap
  refine ⟨fun s => 0 ≤ s.2 ∧ s.2 ≤ R.length ∧ s.1 = ((R.take s.2.toNat).countP fun f => (top order f).isSome : Nat), fun s => (R.length - s.2).toNat, ⟨Int.le_refl 0, Int.natCast_nonneg _, rfl⟩, ?_⟩
  rintro ⟨c, x⟩ ⟨x0, x1, x2⟩
  dsimp only at x0 x1 x2
  subst x2
  have hc : (R.take x.toNat).countP (fun f => (top order f).isSome) ≤ R.length := Nat.le_trans List.countP_le_length (by rw [List.length_take]; omega)
  rw [List.length_map]
  refine fun _ => ⟨fun hlt => ?_, fun hge => ?_⟩
  · have hx := ix_get (xs := R) x0 hlt
    have e : (R.take (x + 1).toNat).countP (fun f => (top order f).isSome) = (R.take x.toNat).countP (fun f => (top order f).isSome) + (if (top order (ix R x)).isSome then 1 else 0) := by
      have : (x + 1).toNat = x.toNat + 1 := by omega
      rw [this, List.take_add_one, hx, List.countP_append]
      simp
    have hix : ix (R.map fun f => (top order f).getD (-1)) x = (top order (ix R x)).getD (-1) := ix_map x0 hlt
    rw [hix]
    refine ⟨fun c => c = ((R.take (x + 1).toNat).countP (fun f => (top order f).isSome) : Nat), fun c hc => ⟨by unfold I64; omega, ⟨by (try dsimp only); omega, by (try dsimp only); omega, hc⟩, by (try dsimp only); omega⟩, ⟨x0, by rw [List.length_map]; exact hlt⟩, fun _ => ⟨fun hb => ⟨by unfold I64; omega, ?_⟩, fun hb => ?_⟩⟩
    · rw [e, if_pos ((top_ge ho).1 hb)]; simp
    · rw [e, if_neg fun h => hb ((top_ge ho).2 h)]; simp
  · have : x.toNat = R.length := by
      have : ¬ x < (R.length : Int) := hge
      omega
    show Q (((R.take x.toNat).countP (fun f => (top order f).isSome) : Nat) : Int)
    rw [this, List.take_length, ← hsz]; exact k
end Go.Vc
