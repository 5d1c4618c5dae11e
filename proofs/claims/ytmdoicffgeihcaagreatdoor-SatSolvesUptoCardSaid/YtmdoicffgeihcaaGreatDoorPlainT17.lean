/- The law: what Solve says is so. No program in sight. -/
import Derived.Test.YtmdoicffgeihcaaGreatDoorPlainT16
set_option linter.unusedVariables false
namespace Go.Vc
theorem sub_tail {a b : Int} {l m : List Int} (h : (a :: l).Sublist (b :: m)) (hne : a ≠ b) : (a :: l).Sublist m := by
  cases h with
  | cons _ h => exact h
  | cons_cons _ h => exact absurd rfl hne
theorem units_fit {n : Int} {L : List (List Int)} {S : List Int} (hL : ∀ c ∈ L, litsOk n c = true) (hS : litsOk n S = true) {l : List Int} (hl : l.Sublist S) : ∀ c ∈ L ++ l.map (fun y => [y]), litsOk n c = true := fun c hc => by
  rcases List.mem_append.1 hc with hc | hc
  · exact hL c hc
  · obtain ⟨y, hy, rfl⟩ := List.mem_map.1 hc
    have := mem_lits hS (hl.subset hy)
    simp [litsOk, this]
theorem shown_ok {n : Int} (hn : okN n) {U : List (List Int)} (hU : ∀ c ∈ U, litsOk n c = true) (hUl : U.length ≤ 33554432) {lines : List (List Int)} (hc : ∀ c ∈ lines, litsOk n c = true ∧ c.length ≤ 24) (h : ∀ (k : Nat) c, lines[k]? = some c → RUP n (U ++ lines.take k) c) (he : [] ∈ lines) : showF n U (lines.map fun c => (false, c)) = true := by
  have hall : U.all (litsOk n) = true := List.all_eq_true.2 hU
  have hf : faultOf n U = 0 := by
    unfold faultOf
    unfold okN at hn
    rw [if_neg (by omega), if_neg (by omega), if_pos hall]
  unfold showF
  rw [if_neg (by rw [hf]; simp)]
  have h1 : allOk n (lines.map fun c => (false, c)) = true := List.all_eq_true.2 fun p hp => by
    obtain ⟨c, hcm, rfl⟩ := List.mem_map.1 hp
    exact (hc c hcm).1
  rw [h1, show_rup hn lines U false hall (fun c hcm => (hc c hcm).1) h]
  simp only [Bool.false_or, Bool.true_and]
  exact List.any_eq_true.2 ⟨[], he, by simp⟩
theorem SatSolves_law {n : Int} {clauses : List (List Int)} {suppose : List Int} {model : List Bool} {Q : Bool → Prop} (_ : I64 n) (hb1 : clauses.length ≤ 1048576 ∧ ∀ c ∈ clauses, c.length ≤ 1048576) (hb2 : suppose.length ≤ 1048576) (_ : model.length ≤ 1048576) (hQ : Q true) : V_SatSolves n clauses suppose model Q := by
  have hfl : FitsL clauses := ⟨by have := hb1.1; omega, fun c hc => by have := hb1.2 c hc; unfold Fits; omega⟩
  refine copied_ok hfl ⟨⟨by simp; omega, by simp; unfold maxLen; omega⟩, Fault_ok (lawLiterals_ok ⟨fun f => f = faultAll n clauses suppose, ?_, fun h => ?_, fun h => ?_⟩)⟩
  rotate_left
  · unfold faultAll; rw [if_pos h]
  · unfold faultAll; rw [if_neg h]
  rintro f hf
  refine ⟨fun _ => hQ, fun hbig => ?_⟩
  have hfw := fault_wrong n clauses suppose
  rw [← hf] at hfw
  refine checked_ok ⟨fun hne => ?_, fun heq => ?_⟩
  · obtain ⟨w, hw⟩ := Option.ne_none_iff_exists'.1 hne
    refine Error_ok (fun m hm => (wrong_I64 hm).1) (sameClauses_ok (Ints_ok ⟨fun h => ?_, fun _ => ⟨fun _ => ?_, fun h => ?_⟩⟩))
    · simp [hfw] at h
    · refine ⟨fun x => x = true, ?_, fun _ _ => ⟨fun _ _ => ⟨fun _ _ => rfl, fun h => absurd rfl h⟩, fun h => absurd rfl h⟩, fun h => by simp at h⟩
      rintro x rfl; exact hQ
    · exfalso
      have := (wrong_I64 hw).2
      rw [hw] at hfw
      simp at hfw
      omega
  have hnone : wrongOf n clauses suppose = none := by
    cases e : wrongOf n clauses suppose with
    | none => rfl
    | some w => exact absurd (by rw [e]; simp) heq
  have hf0 : f = 0 := by rw [hnone] at hfw; exact hfw.symm
  obtain ⟨hok, hL, hall, hsl⟩ := wrong_none hnone
  have hn : 0 ≤ n ∧ n ≤ 24 := ⟨hok.1, by
    rcases (by omega : n ≤ 24 ∨ 24 < n) with h | h
    · exact h
    · exact absurd ⟨hf0, h⟩ hbig⟩
  have hlit : ∀ c ∈ clauses, litsOk n c = true := List.all_eq_true.1 hall
  refine newSolver_ok hn hlit hb1.2 hL fun cs watch value level reason T head dead A hAD hcs => ?_
  have h1048 := hb1.1
  refine run_ok hAD hn hcs hlit hsl hb2 (fun core lines hnd hsub hll hgd hru hnil => ?_) fun m hm hmo hmS => ?_
  · refine Error_ok (fun m hm => by cases hm) (sameClauses_ok (Ints_ok ⟨fun h => ?_, fun _ => ⟨fun h => ?_, fun _ => ?_⟩⟩))
    · simp [hf0] at h
    · exact absurd hf0 h
    have hcl := hsub.length_le
    have hshow := fun hUl => shown_ok hok (units_fit hlit hsl hsub) hUl hgd hru hnil
    refine copied_ok hfl ⟨fun h => by simp at h, fun _ => ?_⟩
    refine loop_of (fun s => 0 ≤ s.2.2 ∧ s.2.2 ≤ core.length ∧ s.1 = clauses ++ (core.take s.2.2.toNat).map (fun y => [y]) ∧ 0 ≤ s.2.1 ∧ s.2.1 ≤ suppose.length ∧ (core.drop s.2.2.toNat).Sublist (suppose.drop s.2.1.toNat)) (fun s => ((core.length : Int) - s.2.2).toNat) ⟨by simp, by simp, by simp, by simp, by simp, by simpa using hsub⟩ ?_
    rintro ⟨units, xat, i⟩ ⟨i0, i1, hu, a0, a1, hs⟩ next hnext
    dsimp only at i0 i1 hu a0 a1 hs hnext ⊢
    have hul : units.length ≤ 2097152 := by rw [hu, List.length_append, List.length_map, List.length_take]; omega
    refine fun _ => ⟨fun hi => ?_, fun hi => ?_⟩
    · have hdr := drop_ix i0 hi
      refine loop_of (fun s => s.1 = true ∧ 0 ≤ s.2 ∧ s.2 ≤ i) (fun s => (i - s.2).toNat) ⟨rfl, by simp, i0⟩ ?_
      rintro ⟨once, k⟩ ⟨ho, k0, k1⟩ next2 hnext2
      dsimp only at ho k0 k1 hnext2 ⊢
      subst ho
      refine ⟨fun hk => ⟨fun b => b = true, ?_, fun _ => ⟨⟨k0, by omega⟩, fun _ => ⟨⟨i0, hi⟩, fun _ => ?_⟩⟩, fun h => by cases h⟩, fun hk => ?_⟩
      · rintro b rfl
        exact ⟨by unfold I64; omega, hnext2 _ ⟨rfl, by dsimp only; omega, by dsimp only; omega⟩ (by dsimp only; omega)⟩
      · refine decide_eq_true fun e => ?_
        have e1 : core[k.toNat]? = some (ix core k) := by
          unfold ix; rw [List.getD_eq_getElem?_getD, List.getElem?_eq_getElem (by omega)]; rfl
        have e2 : core[i.toNat]? = some (ix core i) := by
          unfold ix; rw [List.getD_eq_getElem?_getD, List.getElem?_eq_getElem (by omega)]; rfl
        rw [e] at e1
        have := nodup_pos hnd e1 e2
        omega
      · refine loop_of (fun x => 0 ≤ x ∧ x ≤ suppose.length ∧ (core.drop i.toNat).Sublist (suppose.drop x.toNat)) (fun x => ((suppose.length : Int) - x).toNat) ⟨a0, a1, hs⟩ ?_
        rintro x ⟨x0, x1, hxs⟩ next3 hnext3
        refine ⟨fun b => (b = true → x < suppose.length ∧ ix suppose x ≠ ix core i) ∧ (b = false → ¬ (x < suppose.length ∧ ix suppose x ≠ ix core i)), ?_, fun _ => ⟨fun hx => ⟨⟨x0, hx⟩, fun _ => ⟨⟨i0, hi⟩, fun _ => ⟨fun e => ⟨hx, of_decide_eq_true e⟩, fun e h => of_decide_eq_false e h.2⟩⟩⟩, fun hx => ⟨fun e => (by cases e), fun _ h => hx h.1⟩⟩⟩
        rintro b ⟨hb1', hb2'⟩
        refine ⟨fun hb => ?_, fun hb _ => ⟨fun h => ?_, fun h => ?_⟩⟩
        · obtain ⟨hx, hne⟩ := hb1' hb
          refine ⟨by unfold I64; omega, hnext3 _ ⟨by omega, by omega, ?_⟩ (by first | omega | (dsimp only; omega))⟩
          rw [hdr, drop_ix x0 hx] at hxs
          rw [hdr]
          exact sub_tail hxs fun e => hne e.symm
        · exfalso
          rcases h with h | h
          · have hz : suppose.drop x.toNat = [] := List.drop_eq_nil_of_le (by omega)
            rw [hdr, hz] at hxs
            exact absurd (List.sublist_nil.1 hxs) (by simp)
          · simp at h
        · refine ⟨⟨i0, hi⟩, fun _ => ⟨⟨by rw [List.length_singleton]; omega, by rw [List.length_singleton]; unfold maxLen; omega⟩, by unfold I64; omega, hnext _ ⟨by dsimp only; omega, by dsimp only; omega, ?_, x0, x1, ?_⟩ (by dsimp only; omega)⟩⟩
          · dsimp only
            rw [take_ix i0 hi, hu, List.map_append, List.append_assoc]; rfl
          · dsimp only
            rw [hdr] at hxs
            exact (List.sublist_cons_self _ _).trans hxs
    · have e : units = clauses ++ core.map (fun y => [y]) := by rw [hu, List.take_of_length_le (by omega)]
      rw [e] at hul ⊢
      refine fun _ => ⟨fun _ => hQ, fun hle => ?_⟩
      have hsh := hshow (by omega)
      refine refChecked_ok ⟨by rw [List.length_map]; omega, fun p hp => by obtain ⟨c, hc, rfl⟩ := List.mem_map.1 hp; have := (hgd c hc).2; unfold Fits; dsimp only; omega⟩ ⟨fun b => b = false, ?_, fun _ => ⟨fun hm => Models_ok (shown_none hm hsh), fun _ => rfl⟩⟩
      rintro b rfl
      refine ⟨fun x => x = true, ?_, fun _ => ⟨fun _ _ => by simp, fun h => by cases h⟩, fun h => by rw [hsh] at h; cases h⟩
      rintro x rfl; exact hQ
  · refine Error_ok (fun m hm => by cases hm) (sameClauses_ok (Ints_ok ⟨fun h => ?_, fun _ => ⟨fun h => ?_, fun _ => ?_⟩⟩))
    · simp [hf0] at h
    · exact absurd hf0 h
    refine copied_ok hfl ⟨fun _ => ?_, fun h => by cases h⟩
    refine loop_of (fun s => 0 ≤ s.2 ∧ s.2 ≤ suppose.length ∧ s.1 = clauses ++ (suppose.take s.2.toNat).map (fun y => [y])) (fun s => ((suppose.length : Int) - s.2).toNat) ⟨by simp, by simp, by simp⟩ ?_
    rintro ⟨units, i⟩ ⟨i0, i1, hu⟩ next hnext
    dsimp only at i0 i1 hu hnext ⊢
    have hul : units.length ≤ 2097152 := by rw [hu, List.length_append, List.length_map, List.length_take]; omega
    refine fun _ => ⟨fun hi => ⟨⟨i0, hi⟩, fun _ => ⟨⟨by rw [List.length_singleton]; omega, by rw [List.length_singleton]; unfold maxLen; omega⟩, by unfold I64; omega, hnext _ ⟨by dsimp only; omega, by dsimp only; omega, ?_⟩ (by dsimp only; omega)⟩⟩, fun hi => Models_ok ?_⟩
    · dsimp only
      rw [take_ix i0 hi, hu, List.map_append, List.append_assoc]; rfl
    have hmod : modelsF m units = true := by
      rw [hu, List.take_of_length_le (by omega)]
      unfold modelsF at hmo ⊢
      rw [List.all_append, hmo, Bool.true_and, List.all_map]
      exact List.all_eq_true.2 fun x hx => by simp [makesF, hmS x hx]
    rw [hmod]
    refine ⟨fun x => x = true, ?_, fun _ _ => ⟨fun _ _ => ⟨fun _ _ => by simp, fun h => absurd rfl h⟩, fun h => absurd hm h⟩, fun h => by cases h⟩
    rintro x rfl; exact hQ
end Go.Vc
