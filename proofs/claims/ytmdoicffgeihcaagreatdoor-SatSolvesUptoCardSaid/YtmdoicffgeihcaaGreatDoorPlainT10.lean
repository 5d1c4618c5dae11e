/- All clauses are put in. No program in sight. -/
import Derived.Test.YtmdoicffgeihcaaGreatDoorPlainT9
set_option linter.unusedVariables false
namespace Go.Vc
/-- Ahead of the search: there can be no values at all; or all that follows is known. -/
def AD (n : Int) (F L : List (List Int)) (cs : List Raw) (watch : List (Int × Raw)) (value level reason T : List Int) (head : Int) (dead : Bool) (A : Arena) : Prop :=
  (dead = true ∧ RUP n L []) ∨ (dead = false ∧ ∃ own, SI n cs watch value level reason T [] head A own ∧ head = T.length ∧ QF (clsOf A cs) T [] T.length ∧ RI L (clsOf A cs) ∧ CV F (clsOf A cs))
theorem sorted_false {T : List Int} {c : List Int} (h : c.Pairwise (ltS T)) {i j : Nat} {x y : Int} (hi : c[i]? = some x) (hj : c[j]? = some y) (hij : i ≤ j) (hx : tv T x < 0) : tv T y < 0 := by
  rcases Nat.lt_or_ge i j with hlt | hge
  · obtain ⟨g1, g2⟩ := List.getElem?_eq_some_iff.1 hi
    obtain ⟨g3, g4⟩ := List.getElem?_eq_some_iff.1 hj
    have := List.pairwise_iff_getElem.1 h i j g1 g3 hlt
    rw [g2, g4] at this
    unfold ltS cmpS at this
    rcases this with h | h <;> omega
  · have : i = j := by omega
    subst this
    rw [hi] at hj; cases hj; exact hx
section
variable {n : Int} {cs : List Raw} {watch : List (Int × Raw)} {value level reason T : List Int} {head : Int} {heat : List Unit} {proof : List (Bool × List Int)} {dead : Bool} {A : Arena}
theorem add_ok {F L : List (List Int)} {c : List Int} (hn : 0 ≤ n ∧ n ≤ 24) (h : AD n F L cs watch value level reason T head dead A) (hcL : c ∈ L) (hlit : litsOk n c = true) (hlen : c.length ≤ 1048576) (hbig : cs.length < 67108864)
    {Q : List Raw → List (Int × Raw) → List Int → List Int → List Int → List Int → Int → Bool → Arena → Prop}
    (hq : ∀ cs' watch' value' level' reason' T' head' dead' A', AD n (F ++ [c]) L cs' watch' value' level' reason' T' head' dead' A' → cs'.length ≤ cs.length + 1 → Q cs' watch' value' level' reason' T' head' dead' A') :
    V_add n cs watch value level reason T [] head heat proof dead A c Q := by
  have hokn : okN n := ⟨hn.1, by omega⟩
  refine tidy_ok (by unfold Fits; omega) (lits_neg hokn hlit) ?_
  rcases h with ⟨rfl, hrup⟩ | ⟨rfl, own, hS, hhd, hQ, hRI, hCV⟩
  · refine ⟨fun x => x = true, fun x hx => ⟨fun _ => hq _ _ _ _ _ _ _ _ _ (.inl ⟨rfl, hrup⟩) (by omega), fun e => by rw [hx] at e; cases e⟩, fun _ => rfl, fun _ => rfl⟩
  have hstrict := tidyF_strict c
  have hmemc : ∀ x, x ∈ tidyF c ↔ x ∈ c := fun x => mem_tidyF
  have hlitT : litsOk n (tidyF c) = true := List.all_eq_true.2 fun x hx => mem_lits hlit ((hmemc x).1 hx)
  generalize tidyF c = tc at *
  refine ⟨fun x => (x = true → ∃ y ∈ c, -y ∈ c) ∧ (x = false → ∀ y ∈ tc, -y ∉ tc), ?_, fun e => ⟨fun _ => ?_, fun e => (by cases e)⟩, fun e => ⟨fun e => (by cases e), fun _ y hy hm => ?_⟩⟩
  rotate_left
  · simp only [Bool.not_not, List.any_eq_true, decide_eq_true_eq] at e
    obtain ⟨y, hy, hm⟩ := e
    exact ⟨y, (hmemc y).1 hy, (hmemc _).1 hm⟩
  · simp only [Bool.not_not, List.any_eq_false, decide_eq_true_eq] at e
    exact e y hy hm
  rintro b ⟨hb1, hb2⟩
  refine ⟨fun e => hq _ _ _ _ _ _ _ _ _ (.inr ⟨rfl, own, hS, hhd, hQ, hRI, fun f hf => ?_⟩) (by omega), fun e => ?_⟩
  · rcases List.mem_append.1 hf with hf | hf
    · exact hCV f hf
    · rw [List.mem_singleton.1 hf]; exact .inl (hb1 e)
  have hcon := hb2 e
  have hnd : tc.Nodup := hstrict.imp (fun h => by omega)
  have hl24 : (tc.length : Int) ≤ n := by
    have h1 : (tc.map av).Nodup := by
      have : ∀ (l : List Int), l.Nodup → (∀ y ∈ l, -y ∉ l) → (l.map av).Nodup := by
        intro l
        induction l with
        | nil => intro _ _; exact List.nodup_nil
        | cons a l ih =>
          intro h1 h2
          rw [List.nodup_cons] at h1
          rw [List.map_cons, List.nodup_cons]
          refine ⟨fun hm => ?_, ih h1.2 fun y hy hm => h2 y (List.mem_cons_of_mem _ hy) (List.mem_cons_of_mem _ hm)⟩
          obtain ⟨y, hy, e⟩ := List.mem_map.1 hm
          rcases av_eq e with e | e
          · exact h1.1 (by rw [← e]; exact hy)
          · exact h2 a (by simp) (List.mem_cons_of_mem _ (by rw [← e]; exact hy))
      exact this tc hnd hcon
    have h2 := nodup_bound n.toNat (tc.map av) h1 fun x hx => by
      obtain ⟨t, ht, rfl⟩ := List.mem_map.1 hx
      have := lit_av hokn (mem_lits hlitT ht); omega
    rw [List.length_map] at h2; omega
  refine SortSF_ok hS.ti hstrict (by omega) (fun i hi => mem_lits hlitT hi) fun d hd hsd => ?_
  have hdmem : ∀ x, x ∈ c ↔ x ∈ d := fun x => (hmemc x).symm.trans hd.mem_iff.symm
  have hdlit : litsOk n d = true := List.all_eq_true.2 fun x hx => mem_lits hlit ((hdmem x).2 hx)
  have hdnd : d.Nodup := hd.nodup_iff.2 hnd
  have hdlen : (d.length : Int) ≤ n := by rw [hd.length_eq]; exact hl24
  have hRUP : (∀ y ∈ d, -y ∈ T) → RUP n L [] := fun hf => dead_all hS.ti hS.cw hRI hcL hdmem hdlit hf
  refine ⟨fun x => (x = true → ∀ y ∈ d, -y ∈ T) ∧ (x = false → ∃ u D, d = u :: D ∧ 0 ≤ tv T u), ?_, fun _ => ⟨fun h0 => ⟨fun _ y hy => ?_, fun e => (by cases e)⟩, fun h0 => ⟨⟨by omega, by omega⟩, fun _ => ⟨tv T (ix d 0), of_ok hS.ti (mem_lits hdlit (ix_mem (by omega) (by omega))) rfl, by have := tv_bounds T (ix d 0); unfold I64; omega, fun e y hy => ?_, fun e => ?_⟩⟩⟩⟩
  rotate_left
  · have : d = [] := List.length_eq_zero_iff.1 (by omega)
    rw [this] at hy; cases hy
  · obtain ⟨j, hj⟩ := List.getElem?_of_mem hy
    exact tv_lt (sorted_false hsd (ix_get (i := 0) (by omega) (by omega)) hj (Nat.zero_le _) (of_decide_eq_true e))
  · cases d with
    | nil => simp at h0
    | cons u D => exact ⟨u, D, rfl, by have := of_decide_eq_false e; simp [ix] at this; omega⟩
  rintro b2 ⟨hc1, hc2⟩
  refine ⟨fun e => hq _ _ _ _ _ _ _ _ _ (.inl ⟨rfl, hRUP (hc1 e)⟩) (by omega), fun e A1 r hA => ?_⟩
  obtain ⟨u, D, rfl, hu0⟩ := hc2 e
  obtain ⟨o1, f1, l1, e1⟩ := Lies.absorb (own := own) (κ := .cl cs.length) hA
  have hmo1 : MemO A1 (FF (cs ++ [r]) watch) o1 := hS.mo.fix f1 (fun κ hκ => FF_cl hκ) (by rw [FF_cl']; exact l1)
  have hcls1 : clsOf A1 cs = clsOf A cs := by
    apply List.ext_getElem?
    intro k
    rcases Nat.lt_or_ge k cs.length with hk | hk
    · rw [clsOf_get hk, clsOf_get hk]
      have := ((hS.mo (.cl k)).other (by intro e; cases e; omega) f1).2
      simp only [FF] at this; rw [this]
    · rw [List.getElem?_eq_none (by rw [clsOf_length]; exact hk), List.getElem?_eq_none (by rw [clsOf_length]; exact hk)]
  have hwt1 : ∀ k, wtOf A1 watch k = wtOf A watch k := fun k => ((hS.mo (.wt k)).other (by simp) f1).2
  refine keep_ok hmo1 e1 (fun k => by rw [hcls1, hwt1]; exact hS.ws k) hdnd hbig (by omega) fun o2 w2 A2 m2 c2 v2 => ?_
  rw [hcls1] at c2 v2
  have hCgood : (u :: D) ≠ [] ∧ (u :: D).Nodup ∧ litsOk n (u :: D) = true ∧ (u :: D).length ≤ 1048576 := ⟨by simp, hdnd, hdlit, by omega⟩
  have hS2 : SI n (cs ++ [r]) w2 value level reason T [] head A2 o2 := hS.join hbig m2 c2 v2 hCgood
  have hl2 := m2 (.cl cs.length)
  rw [FF_cl'] at hl2
  have hr2 : aread A2 r = u :: D := by
    have := c2
    rw [clsOf_snoc] at this
    have := List.append_inj_right' this rfl
    simpa using this
  have hrn := hl2.length
  rw [hr2] at hrn
  have hRI2 : RI L (clsOf A cs ++ [u :: D]) := fun C hC => by
    rcases List.mem_append.1 hC with hC | hC
    · exact hRI C hC
    · rw [List.mem_singleton.1 hC]; exact ⟨c, hcL, hdmem⟩
  have hCV2 : CV (F ++ [c]) (clsOf A cs ++ [u :: D]) := fun f hf => by
    rcases List.mem_append.1 hf with hf | hf
    · rcases hCV f hf with h | ⟨C, hC, hx⟩
      · exact .inl h
      · exact .inr ⟨C, List.mem_append_left _ hC, hx⟩
    · rw [List.mem_singleton.1 hf]; exact .inr ⟨u :: D, by simp, fun x hx => (hdmem x).2 hx⟩
  have hlast : (clsOf A cs ++ [u :: D])[cs.length]? = some (u :: D) := by
    have hlc : (clsOf A cs).length = cs.length := clsOf_length
    rw [List.getElem?_append_right (by omega)]; simp [hlc]
  have hsn : (cs ++ [r]).length = cs.length + 1 := by simp
  refine ⟨fun x => (x = true → ∀ y ∈ D, -y ∈ T) ∧ (x = false → ∃ w D', D = w :: D' ∧ 0 ≤ tv T w), ?_, by unfold I64; omega, fun h1 => ⟨fun _ y hy => ?_, fun e => (by cases e)⟩, fun h1 => ?_⟩
  rotate_left
  · have : D = [] := List.length_eq_zero_iff.1 (by simp at hrn; omega)
    rw [this] at hy; cases hy
  · have hDn : 1 < r.n := by simp at hrn; have : r.n ≠ 1 := by omega
                             omega
    obtain ⟨g1, g2, g3⟩ := hl2.rd (i := 1) (by omega) (by omega)
    cases D with
    | nil => simp at hrn; omega
    | cons w D' =>
      rw [hr2] at g3
      have g3' : ag A2 r 1 = w := by rw [g3]; rfl
      rw [g3']
      refine ⟨g1, g2, tv T w, of_ok hS2.ti (mem_lits hdlit (by simp)) rfl, by have := tv_bounds T w; unfold I64; omega, fun e y hy => ?_, fun e => ⟨w, D', rfl, by have := of_decide_eq_false e; omega⟩⟩
      obtain ⟨j, hj⟩ := List.getElem?_of_mem hy
      exact tv_lt (sorted_false hsd (i := 1) (j := j + 1) rfl (by simpa using hj) (by omega) (of_decide_eq_true e))
  rintro b3 ⟨hd1, hd2⟩
  refine ⟨fun e => ?_, fun e => ?_⟩
  rotate_left
  · -- both watched literals may be true
    obtain ⟨w, D', rfl, hw0⟩ := hd2 e
    refine hq _ _ _ _ _ _ _ _ _ (.inr ⟨rfl, o2, hS2, hhd, ?_, by rw [c2]; exact hRI2, by rw [c2]; exact hCV2⟩) (by omega)
    rw [c2]
    refine hQ.join fun a ha q hq1 _ => ?_
    exfalso
    have := hS.ti.tv_neg (List.mem_of_getElem? hq1)
    simp only [List.take_succ_cons, List.take_zero, List.mem_cons, List.not_mem_nil, or_false] at ha
    rcases ha with rfl | rfl <;> omega
  -- all but the first are false
  have hDf := hd1 e
  -- what follows
  have follow : ∀ value' level' reason' T', TI n value' level' reason' T' [] (clsOf A cs ++ [u :: D]) → (∃ ext, T' = T ++ ext) → u ∈ T' → QF (clsOf A cs) T' [] T.length →
      V_sfollow n (cs ++ [r]) w2 value' level' reason' T' [] head heat proof false A2 fun r_288 m_290 c_293 c_297 c_301 c_305 c_309 A_311 =>
        (0 ≤ r_288 → Q (cs ++ [r]) m_290 c_293 c_297 c_301 c_305 c_309 true A_311) ∧ (¬ (0 ≤ r_288) → Q (cs ++ [r]) m_290 c_293 c_297 c_301 c_305 c_309 false A_311) := by
    intro value' level' reason' T' hti ⟨ext, hext⟩ huT hQ'
    have hS3 : SI n (cs ++ [r]) w2 value' level' reason' T' [] head A2 o2 := ⟨by rw [c2]; exact hti, hS2.cw, m2, hS2.ws, by rw [hhd, hext, List.length_append]; omega, hS2.st, hS2.big⟩
    have hQ3 : QF (clsOf A2 (cs ++ [r])) T' [] head.toNat := by
      rw [c2, hhd, Int.toNat_natCast]
      refine hQ'.join fun a ha q hq1 hlt => ?_
      obtain ⟨p, hp⟩ := List.getElem?_of_mem huT
      exact ⟨u, by simp, p, hp, by simp [lev]⟩
    refine sfollow_ok hS3 hQ3 (fun o4 w4 v4 l4 r4 T4 A4 S4 Q4 C4 X4 => ⟨fun h => by omega, fun _ => hq _ _ _ _ _ _ _ _ _ (.inr ⟨rfl, o4, S4, rfl, Q4, ?_, ?_⟩) (by omega)⟩) (fun o4 i w4 v4 l4 r4 T4 h4 A4 C S4 _ C4 X4 hC hf _ => ⟨fun _ => hq _ _ _ _ _ _ _ _ _ (.inl ⟨rfl, ?_⟩) (by omega), fun h => by omega⟩)
    · exact (by rw [c2]; exact hRI2 : RI L (clsOf A2 (cs ++ [r]))).cp C4
    · exact (by rw [c2]; exact hCV2 : CV (F ++ [c]) (clsOf A2 (cs ++ [r]))).cp C4
    · have hRI4 : RI L (clsOf A4 (cs ++ [r])) := (by rw [c2]; exact hRI2 : RI L (clsOf A2 (cs ++ [r]))).cp C4
      obtain ⟨g, hg, hgx⟩ := hRI4 C (List.mem_of_getElem? hC)
      exact dead_all S4.ti S4.cw hRI4 hg hgx (S4.cw C (List.mem_of_getElem? hC)).2.2.1 hf
  obtain ⟨g1, g2, g3⟩ := hl2.rd (i := 0) (by omega) (by simp at hrn; omega)
  rw [hr2] at g3
  have g3' : ag A2 r 0 = u := by rw [g3]; rfl
  rw [g3']
  have hulit : isLit n u = true := mem_lits hdlit (by simp)
  refine ⟨fun s => TI n s.1 s.2.1 s.2.2.1 s.2.2.2 [] (clsOf A cs ++ [u :: D]) ∧ (∃ ext, s.2.2.2 = T ++ ext) ∧ u ∈ s.2.2.2 ∧ QF (clsOf A cs) s.2.2.2 [] T.length, ?_, g1, g2, tv T u, of_ok hS2.ti hulit rfl, by have := tv_bounds T u; unfold I64; omega, fun hz => ⟨g1, g2, fun _ => ⟨by rw [hsn]; unfold I64; omega, ?_⟩⟩, fun hnz => ?_⟩
  · rintro ⟨value', level', reason', T'⟩ ⟨a1, a2, a3, a4⟩
    exact follow value' level' reason' T' a1 a2 a3 a4
  · refine set_ok hS2.ti hulit ⟨?_, ⟨[u], rfl⟩, by simp, hQ.push u (Nat.le_refl _)⟩
    have hti2 := hS2.ti
    rw [c2] at hti2
    have e5 : (((cs ++ [r]).length : Nat) : Int) - 1 = (cs.length : Int) := by rw [hsn]; omega
    rw [e5]
    exact hti2.push hulit hz (.inl ⟨rfl, by omega, D, by simpa using hlast, hDf⟩)
  · have hti2 := hS2.ti
    rw [c2] at hti2
    refine ⟨hti2, ⟨[], by simp⟩, ?_, hQ⟩
    rcases tv_cases T u with ⟨_, h⟩ | ⟨h, _⟩ | ⟨h, _⟩
    · exact h
    · omega
    · exact absurd h hnz
theorem start_TI (hn : 0 ≤ n ∧ n ≤ 24) : TI n (List.replicate (n + 1).toNat 0) (List.replicate (n + 1).toNat 0) (List.replicate (n + 1).toNat 0) [] [] [] :=
  ⟨hn, start_vals n, by simp, by simp, fun t ht => (by cases ht), List.nodup_nil, fun l _ => by
    have : ix (List.replicate (n + 1).toNat (0 : Int)) (av l) = 0 := by
      unfold ix
      rw [List.getD_eq_getElem?_getD, List.getElem?_replicate]
      split <;> rfl
    unfold valOf
    rw [this]; simp [tv], fun p t h => (by simp at h), fun p t h => (by simp at h), List.Pairwise.nil, fun s hs => (by cases hs)⟩
theorem newSolver_ok {L : List (List Int)} (hn : 0 ≤ n ∧ n ≤ 24) (hlit : ∀ c ∈ L, litsOk n c = true) (hlen : ∀ c ∈ L, c.length ≤ 1048576) (hL : L.length ≤ 33554432)
    {Q : Int → List Raw → List (Int × Raw) → List Int → List Int → List Int → List Int → List Int → Int → List Unit → List (Bool × List Int) → Bool → Arena → Prop}
    (hq : ∀ cs watch value level reason T head dead A, AD n L L cs watch value level reason T head dead A → cs.length ≤ 33554432 → Q n cs watch value level reason T [] head (List.replicate (n + 1).toNat ()) [] dead A) : V_newSolver n L Q := by
  have hmade : Made (n + 1) 8 := ⟨by omega, by omega, by omega⟩
  refine ⟨by unfold I64; omega, by unfold I64; omega, by unfold I64; omega, by unfold I64; omega, hmade, hmade, hmade, hmade, fun hl => ?_⟩
  refine ⟨fun s => 0 ≤ s.2.2.2.2.2.2.2.2.2.2.2 ∧ s.2.2.2.2.2.2.2.2.2.2.2 ≤ L.length ∧ AD n (L.take s.2.2.2.2.2.2.2.2.2.2.2.toNat) L s.1 s.2.1 s.2.2.1 s.2.2.2.1 s.2.2.2.2.1 s.2.2.2.2.2.1 s.2.2.2.2.2.2.2.1 s.2.2.2.2.2.2.2.2.2.1 s.2.2.2.2.2.2.2.2.2.2.1 ∧ s.2.2.2.2.2.2.1 = [] ∧ s.2.2.2.2.2.2.2.2.1 = [] ∧ (s.1.length : Int) ≤ s.2.2.2.2.2.2.2.2.2.2.2,
    fun s => ((L.length : Int) - s.2.2.2.2.2.2.2.2.2.2.2).toNat, ⟨by simp, by simp, .inr ⟨rfl, fun _ => none, ⟨start_TI hn, fun C hC => (by simp [clsOf] at hC), fun κ => .inl (by cases κ <;> rfl), fun k => ⟨List.nodup_nil, fun i => ?_⟩, by simp, fun s hs => (by cases hs), by simp⟩, rfl, fun i C a q hC => (by simp [clsOf] at hC), fun C hC => (by simp [clsOf] at hC), fun f hf => (by simp at hf)⟩, rfl, rfl, by simp⟩, ?_⟩
  · simp [wtOf, clsOf, mgetD, mfind, aread]
  rintro ⟨c1, w1, v1, l1, r1, T1, s1, h1, p1, d1, A1, x⟩ ⟨h0, hx, hA, rfl, rfl, hc⟩
  dsimp only at h0 hx hA hc ⊢
  refine ⟨fun hlt => ⟨⟨h0, hlt⟩, ?_⟩, fun hge => ?_⟩
  · have hm := ix_mem (xs := L) h0 hlt
    refine add_ok hn hA hm (hlit _ hm) (hlen _ hm) (by omega) fun cs' watch' value' level' reason' T' head' dead' A' hA' hlen' => ⟨i64_succ hl h0 hlt, ⟨by omega, by omega, ?_, rfl, rfl, by omega⟩, by first | omega | (dsimp only; omega)⟩
    try dsimp only
    rw [take_ix h0 hlt]; exact hA'
  · have e : L.take x.toNat = L := List.take_of_length_le (by omega)
    rw [e] at hA
    exact hq _ _ _ _ _ _ _ _ _ hA (by omega)
end
end Go.Vc
