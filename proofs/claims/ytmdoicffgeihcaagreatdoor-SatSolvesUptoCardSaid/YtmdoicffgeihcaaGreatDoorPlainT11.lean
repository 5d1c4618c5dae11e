/- What is learned of a conflict. No program in sight. -/
import Derived.Test.YtmdoicffgeihcaaGreatDoorPlainT10
set_option linter.unusedVariables false
namespace Go.Vc
/-- How many places of the last level, ahead of one, are marked. -/
def sc (seen : List Bool) (T starts : List Int) (q : Nat) : Bool := decide (lev starts q = (starts.length : Int)) && ix seen (av (ix T (q : Int)))
def cnt (seen : List Bool) (T starts : List Int) (m : Nat) : Nat := ((List.range m).filter (sc seen T starts)).length
theorem cnt_succ (seen : List Bool) (T starts : List Int) (m : Nat) : cnt seen T starts (m + 1) = cnt seen T starts m + (if sc seen T starts m = true then 1 else 0) := by
  unfold cnt
  rw [List.range_succ, List.filter_append, List.length_append]
  congr 1
  by_cases h : sc seen T starts m = true <;> simp [h]
theorem cnt_pos {seen : List Bool} {T starts : List Int} {m : Nat} : 1 ≤ cnt seen T starts m ↔ ∃ q, q < m ∧ sc seen T starts q = true := by
  induction m with
  | zero => simp [cnt]
  | succ m ih =>
    rw [cnt_succ]
    constructor
    · intro h
      by_cases h1 : sc seen T starts m = true
      · exact ⟨m, by omega, h1⟩
      · rw [if_neg h1] at h
        obtain ⟨q, hq, hs⟩ := ih.1 (by omega)
        exact ⟨q, by omega, hs⟩
    · rintro ⟨q, hq, hs⟩
      by_cases e : q = m
      · subst e; rw [if_pos hs]; omega
      · have := ih.2 ⟨q, by omega, hs⟩; omega
theorem filter_one {P P' : Nat → Bool} {q0 : Nat} (hne : ∀ q, q ≠ q0 → P' q = P q) (h0 : P q0 = false) (h1 : P' q0 = true) : ∀ m, ((List.range m).filter P').length = ((List.range m).filter P).length + (if q0 < m then 1 else 0)
  | 0 => by simp
  | m + 1 => by
    rw [List.range_succ, List.filter_append, List.filter_append, List.length_append, List.length_append, filter_one hne h0 h1 m]
    by_cases e : m = q0
    · subst e; simp [h0, h1]
    · have e1 := hne m e
      have : (q0 < m + 1) ↔ q0 < m := by omega
      simp only [List.filter_cons, List.filter_nil, e1, this]
      omega
theorem ix_set_same {α : Type} [Inhabited α] {xs : List α} {i : Int} {v : α} (h0 : 0 ≤ i) (h1 : i < xs.length) : ix (xs.set i.toNat v) i = v := by
  unfold ix; rw [List.getD_eq_getElem?_getD, List.getElem?_set_self (by omega)]; rfl
theorem ix_set_other {α : Type} [Inhabited α] {xs : List α} {i j : Int} {v : α} (h0 : 0 ≤ i) (h1 : 0 ≤ j) (h : i ≠ j) : ix (xs.set i.toNat v) j = ix xs j := by
  unfold ix; rw [List.getD_eq_getElem?_getD, List.getD_eq_getElem?_getD, List.getElem?_set_ne (by omega)]
theorem lev_start {starts : List Int} {p q : Nat} (hs : (p : Int) ∈ starts) (hq : q < p) : lev starts q < lev starts p := by
  have h1 : (starts.filter fun s => decide (s ≤ (q : Int))).length < (starts.filter fun s => decide (s ≤ (p : Int))).length := by
    induction starts with
    | nil => cases hs
    | cons a l ih =>
      rw [List.filter_cons, List.filter_cons]
      have hle : (l.filter fun s => decide (s ≤ (q : Int))).length ≤ (l.filter fun s => decide (s ≤ (p : Int))).length := by have := lev_mono (starts := l) (Nat.le_of_lt hq); unfold lev at this; omega
      by_cases ea : a = (p : Int)
      · have n1 : ¬ a ≤ (q : Int) := by omega
        have n2 : a ≤ (p : Int) := by omega
        simp only [n1, n2, decide_true, decide_false, if_true, Bool.false_eq_true, if_false, List.length_cons]; omega
      · have := ih (by rcases List.mem_cons.1 hs with h | h; exact absurd h.symm ea; exact h)
        by_cases h1 : a ≤ (q : Int)
        · have h2 : a ≤ (p : Int) := by omega
          simp only [h1, h2, decide_true, if_true, List.length_cons]; omega
        · by_cases h2 : a ≤ (p : Int)
          · simp only [h1, h2, decide_true, decide_false, if_true, Bool.false_eq_true, if_false, List.length_cons]; omega
          · simp only [h1, h2, decide_false, Bool.false_eq_true, if_false]; exact this
  unfold lev; omega
section
variable {n : Int} {value level reason T starts : List Int} {Cl L : List (List Int)}
theorem ixT {q : Nat} {t : Int} (h : T[q]? = some t) : ix T (q : Int) = t := ix_getE h
/-- What is marked, what comes out. -/
structure LM (n : Int) (T starts : List Int) (seen : List Bool) (O : List Int) (op : Int) (m : Nat) : Prop where
  len : (seen.length : Int) = n + 1
  op : op = (cnt seen T starts m : Int)
  hseen : ∀ q t, T[q]? = some t → ix seen (av t) = true → 1 ≤ lev starts q ∧ (lev starts q = starts.length ∨ -t ∈ O)
  nd : (O.map av).Nodup
  out : ∀ y ∈ O, ∃ q, T[q]? = some (-y) ∧ 1 ≤ lev starts q ∧ lev starts q < starts.length ∧ ix seen (av y) = true
theorem LM.mark (ht : TI n value level reason T starts Cl) {seen : List Bool} {O : List Int} {op : Int} {m : Nat} (h : LM n T starts seen O op m) {l : Int} {q0 : Nat} (hq : T[q0]? = some (-l)) (hs : ix seen (av l) = false) (h1 : lev starts q0 ≠ 0) :
    (lev starts q0 = starts.length → q0 < m → LM n T starts (seen.set (av l).toNat true) O (op + 1) m) ∧ (lev starts q0 ≠ starts.length → LM n T starts (seen.set (av l).toNat true) (O ++ [l]) op m) := by
  have hlit := ht.lits _ (List.mem_of_getElem? hq)
  have hla := lit_av ht.okn hlit
  rw [av_neg] at hla
  have hin : (av l).toNat < seen.length := by have := h.len; have := ht.hn; omega
  have hother : ∀ q t, T[q]? = some t → q ≠ q0 → ix (seen.set (av l).toNat true) (av t) = ix seen (av t) := fun q t hqt hne => by
    refine ix_set_other (by omega) (by have := lit_av ht.okn (ht.lits _ (List.mem_of_getElem? hqt)); omega) fun e => hne ?_
    have := ht.inj (List.mem_of_getElem? hq) (List.mem_of_getElem? hqt) (by rw [av_neg]; exact e)
    rw [this] at hq
    exact ht.pos hqt hq
  have hsame : ix (seen.set (av l).toNat true) (av l) = true := ix_set_same (by omega) (by omega)
  have hmono : ∀ v : Int, 0 ≤ v → ix seen v = true → ix (seen.set (av l).toNat true) v = true := fun v h0 hv => by
    by_cases e : av l = v
    · rw [← e]; exact hsame
    · rw [ix_set_other (by omega) h0 e]; exact hv
  have hsc : ∀ q, q < T.length → q ≠ q0 → sc (seen.set (av l).toNat true) T starts q = sc seen T starts q := fun q hlt hne => by
    unfold sc
    rw [hother q _ (ix_get (i := (q : Int)) (by omega) (by omega)) hne]
  have hq0 : q0 < T.length := (List.getElem?_eq_some_iff.1 hq).1
  have hf0 : sc seen T starts q0 = false := by unfold sc; rw [ixT hq, av_neg, hs]; simp
  have hseen' : ∀ q t, T[q]? = some t → q ≠ q0 → ix (seen.set (av l).toNat true) (av t) = true → 1 ≤ lev starts q ∧ (lev starts q = starts.length ∨ -t ∈ O) := fun q t hqt hne hst => by
    rw [hother q t hqt hne] at hst
    exact h.hseen q t hqt hst
  have hlev0 := lev_nonneg starts q0
  have hlevc := lev_le starts q0
  -- beyond the trail all is as it was
  have hbey : ∀ q, ¬ q < T.length → sc (seen.set (av l).toNat true) T starts q = sc seen T starts q := fun q hge => by
    have e : ix T (q : Int) = 0 := by unfold ix; rw [List.getD_eq_getElem?_getD, List.getElem?_eq_none (by omega)]; rfl
    unfold sc
    rw [e, show av 0 = 0 from rfl, ix_set_other (by omega) (by omega) (by omega)]
  refine ⟨fun hc hm => ⟨by rw [List.length_set]; exact h.len, ?_, fun q t hqt hst => ?_, h.nd, fun y hy => ?_⟩, fun hc => ⟨by rw [List.length_set]; exact h.len, ?_, fun q t hqt hst => ?_, ?_, fun y hy => ?_⟩⟩
  · have h1' : sc (seen.set (av l).toNat true) T starts q0 = true := by unfold sc; rw [ixT hq, av_neg, hsame]; simp [hc]
    have := filter_one (P := sc seen T starts) (P' := sc (seen.set (av l).toNat true) T starts) (fun q hne => by
      by_cases hlt : q < T.length
      · exact hsc q hlt hne
      · exact hbey q hlt) hf0 h1' m
    rw [if_pos hm] at this
    have h2 := h.op
    unfold cnt at *; omega
  · by_cases e : q = q0
    · subst e; exact ⟨by omega, .inl hc⟩
    · exact hseen' q t hqt e hst
  · obtain ⟨q, g1, g2, g3, g4⟩ := h.out y hy
    exact ⟨q, g1, g2, g3, hmono _ (by unfold av; omega) g4⟩
  · have : cnt (seen.set (av l).toNat true) T starts m = cnt seen T starts m := by
      unfold cnt
      congr 1
      refine List.filter_congr fun q _ => ?_
      by_cases e : q = q0
      · subst e
        rw [hf0]; unfold sc; simp [hc]
      · by_cases hlt : q < T.length
        · exact hsc q hlt e
        · exact hbey q hlt
    rw [this]; exact h.op
  · by_cases e : q = q0
    · subst e
      rw [hq] at hqt; cases hqt
      exact ⟨by omega, .inr (by simp)⟩
    · obtain ⟨g1, g2⟩ := hseen' q t hqt e hst
      exact ⟨g1, g2.imp id fun h => List.mem_append_left _ h⟩
  · rw [List.map_append, List.nodup_append]
    refine ⟨h.nd, by simp, fun a ha b hb => ?_⟩
    obtain ⟨y, hy, rfl⟩ := List.mem_map.1 ha
    simp only [List.map_cons, List.map_nil, List.mem_singleton] at hb
    subst hb
    intro e
    obtain ⟨_, _, _, _, g4⟩ := h.out y hy
    rw [e, hs] at g4; cases g4
  · rcases List.mem_append.1 hy with hy | hy
    · obtain ⟨q, g1, g2, g3, g4⟩ := h.out y hy
      exact ⟨q, g1, g2, g3, hmono _ (by unfold av; omega) g4⟩
    · rw [List.mem_singleton.1 hy]
      exact ⟨q0, hq, by omega, by omega, hsame⟩
theorem LM.olen (ht : TI n value level reason T starts Cl) {seen : List Bool} {O : List Int} {op : Int} {m : Nat} (h : LM n T starts seen O op m) : (O.length : Int) ≤ n := by
  have h1 := nodup_bound n.toNat (O.map av) h.nd fun x hx => by
    obtain ⟨y, hy, rfl⟩ := List.mem_map.1 hx
    obtain ⟨q, g1, _⟩ := h.out y hy
    have := lit_av ht.okn (ht.lits _ (List.mem_of_getElem? g1))
    rw [av_neg] at this
    omega
  rw [List.length_map] at h1; have := ht.hn; omega
end
end Go.Vc
