/- The plain part of SatProofs, SatShown: the program takes the lines that the document takes; what is shown is so. No program in sight. -/
import Derived.Test.YtdflojjpjklbfaaPlainS3
import Derived.Test.YtdflojjpjklbfaaRead
set_option linter.unusedVariables false
namespace Go.Vc
theorem wrong_fault {n : Int} {cs : List (List Int)} : (wrongOf n cs [] ≠ none ↔ faultOf n cs ≠ 0) := by
  unfold wrongOf faultOf
  by_cases h1 : n < 0 ∨ 16777216 < n
  · rw [if_pos h1, if_pos h1]; simp
  · rw [if_neg h1, if_neg h1]
    by_cases h2 : 33554432 < (cs.length : Int)
    · rw [if_pos h2, if_pos h2]; simp
    · rw [if_neg h2, if_neg h2]
      have : litsOk n [] = true := rfl
      rw [this, Bool.and_true]
      by_cases h3 : cs.all (litsOk n) = true
      · rw [if_pos h3, if_pos h3]; simp
      · rw [if_neg h3, if_neg h3]; simp
theorem answer_of {β : Type} {f : List Int → β} {z : β} {Q : β → Bool → Prop} {r : Option (List Int)} (h1 : ∀ v, r = some v → Q (f v) true) (h2 : r = none → Q z false) : answer f z Q r := by
  cases r with
  | none => exact h2 rfl
  | some v => exact h1 v rfl
theorem Checked_ok {n : Int} {cs : List (List Int)} {ps : List (Bool × List Int)} {Q : Bool → Prop} (hf : FitsP ps) (hfc : ∀ c ∈ cs, Fits c) (h : Q (showF n cs ps)) : V_Checked n cs ps Q := by
  refine checked_ok ⟨fun h0 => ?_, fun h0 => ?_⟩
  · rw [showF, if_pos (wrong_fault.1 h0)] at h; exact h
  · have h0 : faultOf n cs = 0 := by
      by_cases he : faultOf n cs = 0
      · exact he
      · exact absurd (wrong_fault.2 he) h0
    rw [showF, if_neg (by simp [h0])] at h
    obtain ⟨hn, hcl, hca⟩ := fault_zero h0
    refine CloneL_ok (by omega) fun hl => ?_
    refine ⟨fun s => 0 ≤ s.2.2 ∧ s.2.2 ≤ ps.length ∧ s.1.all (litsOk n) = true ∧ (∀ c ∈ s.1, Fits c) ∧ s.1.length ≤ 33554432 + s.2.2.toNat ∧ (allOk n ps && showGo n cs false ps) = (allOk n (ps.drop s.2.2.toNat) && showGo n s.1 s.2.1 (ps.drop s.2.2.toNat)),
      fun s => (ps.length - s.2.2).toNat, ⟨by simp, by simp, hca, hfc, by simp; omega, by simp⟩, ?_⟩
    rintro ⟨l, shown, i⟩ ⟨g0, g1, hla, hlf, hll, g2⟩
    simp only at g0 g1 hla hlf hll g2
    refine ⟨fun hlt => ?_, fun hge => ?_⟩
    · have hpm := ix_mem g0 hlt
      have hpf := hf.2 _ hpm
      rw [drop_ix g0 hlt] at g2
      generalize hp : ix ps i = p at *
      obtain ⟨g, c⟩ := p
      simp only at hpf
      have g3 : (allOk n ps && showGo n cs false ps) = ((litsOk n c && allOk n (ps.drop (i + 1).toNat)) && showGo n l shown ((g, c) :: ps.drop (i + 1).toNat)) := g2
      clear g2
      rw [showGo] at g3
      refine ⟨fun s => s.1.all (litsOk n) = true ∧ (∀ c ∈ s.1, Fits c) ∧ s.1.length ≤ 33554432 + (i + 1).toNat ∧ (allOk n ps && showGo n cs false ps) = (allOk n (ps.drop (i + 1).toNat) && showGo n s.1 s.2 (ps.drop (i + 1).toNat)), ?_, ⟨g0, hlt⟩, valid_ok hn ⟨fun hb => ?_, fun hb => ?_⟩⟩
      · rintro ⟨l', s'⟩ ⟨j1, j2, j3, j4⟩
        exact ⟨i64_succ hl g0 hlt, ⟨by dsimp only; omega, by dsimp only; omega, j1, j2, j3, j4⟩, by dsimp only; omega⟩
      · simp only [Bool.not_eq_true'] at hb
        rw [hb] at g3
        simp only [Bool.false_and] at g3
        rw [g3] at h; exact h
      · simp only [Bool.not_eq_false'] at hb
        rw [hb, Bool.true_and] at g3
        refine ⟨fun hg => ?_, fun hg => ?_⟩
        · simp only at hg
          rw [if_pos hg] at g3
          refine ⟨fun l' => l'.all (litsOk n) = true ∧ (∀ c ∈ l', Fits c) ∧ l'.length ≤ 33554432 + (i + 1).toNat ∧ (allOk n ps && showGo n cs false ps) = (allOk n (ps.drop (i + 1).toNat) && showGo n l' shown (ps.drop (i + 1).toNat)), fun l' h => h, ?_⟩
          have hg1 := goneF_all (n := n) c hla
          have hg2 := goneF_length l c
          have hg3 : ∀ x ∈ goneF l c, Fits x := fun x hx => hlf x (List.mem_of_mem_eraseP hx)
          refine IndexFuncL_ok (fun x => alikeF x c) (fun x hx K hK => ?_) (fun k k0 k1 k2 k3 => ?_) (fun hall => ?_)
          · have hxl : litsOk n x = true := List.all_eq_true.1 hla x hx
            exact alike_ok (hlf x hx) hpf (lits_neg hn hxl) (lits_neg hn hb) hK
          · have hk : goneF l c = l.take k.toNat ++ l.drop (k + 1).toNat := eraseP_at k0 k1 k2 k3
            refine ⟨fun _ => ⟨by have := hf.1; unfold I64; omega, ⟨⟨k0, by omega, by omega⟩, ?_⟩⟩, fun h => absurd k0 h⟩
            rw [← hk]
            exact ⟨hg1, hg3, by omega, g3⟩
          · have hk : goneF l c = l := List.eraseP_of_forall_not (fun x hx => by simp [hall x hx])
            refine ⟨fun h => by (exact absurd h (by decide)), fun _ => ?_⟩
            rw [hk] at g3 hg1 hg3
            exact ⟨hg1, hg3, by omega, g3⟩
        · simp only at hg
          rw [hg, if_neg (by simp)] at g3
          intro hlc
          refine ⟨fun s => 0 ≤ s.2 ∧ s.2 ≤ c.length ∧ s.1 = neg (c.take s.2.toNat), fun s => (c.length - s.2).toNat, ⟨by simp, by simp, by simp [neg]⟩, ?_⟩
          rintro ⟨out, k⟩ ⟨k0, k1, k2⟩
          simp only at k0 k1 k2
          obtain ⟨n1, n2⟩ := neg_loop (K := fun o => o = neg c) hn hb hpf rfl k0 k1 k2
          refine ⟨fun hlt2 => ⟨⟨k0, hlt2⟩, fun _ => ?_⟩, fun hge2 => ?_⟩
          · replace hlt2 : k < (c.length : Int) := hlt2
            obtain ⟨m1, m2, m3⟩ := n1 hlt2
            exact ⟨m1, m2, i64_succ hlc k0 hlt2, ⟨by dsimp only; omega, by dsimp only; omega, m3⟩, by dsimp only; omega⟩
          · have ho := n2 hge2
            subst ho
            refine follow_ok hn hla (neg_lits hb) (answer_of (fun v hv => ?_) (fun hv => ?_))
            · rw [hv] at g3
              simp only [Option.isSome_some, if_true, Bool.and_false] at g3
              exact ⟨fun _ => by rw [g3] at h; exact h, fun h => by cases h⟩
            · rw [hv] at g3
              simp only [Option.isSome_none, Bool.false_eq_true, if_false] at g3
              have hroom : Room (l.length + [c].length) 24 := by
                have := hf.1
                constructor
                · simp; omega
                · simp [maxLen]; omega
              have h1 : (l ++ [c]).all (litsOk n) = true := by simp [hla, hb]
              have h2 : ∀ x ∈ l ++ [c], Fits x := fun x hx => by
                rcases List.mem_append.1 hx with hx | hx
                · exact hlf x hx
                · rw [List.mem_singleton.1 hx]; exact hpf
              have h3 : (l ++ [c]).length ≤ 33554432 + (i + 1).toNat := by simp; omega
              refine ⟨fun h => by (cases h), fun _ => ⟨hroom, fun hs => ⟨h1, h2, h3, ?_⟩, fun hs _ => ⟨h1, h2, h3, ?_⟩⟩⟩
              · rw [g3, hs, Bool.true_or]
              · have e : decide ((c.length : Int) = 0) = (shown || decide (c = [])) := by
                  rw [hs, Bool.false_or]
                  cases c <;> simp
                  omega
                dsimp only
                rw [g3, e]
    · rw [drop_end g0 hge] at g2
      rw [show (allOk n ps && showGo n cs false ps) = shown from g2] at h; exact h
theorem SatProofs_ok {n : Int} {cs : List (List Int)} {ps : List (Bool × List Int)} {Q : Bool → Prop} (hc : FitsL cs) (hf : FitsP ps) (h : Q true) : V_SatProofs n cs ps Q := by
  refine copied_ok hc (Checked_ok hf hc.2 (refChecked_ok hf (sameClauses_ok ?_)))
  simpa using h
/-! ### What is shown is so -/
def makesLit (m : List Bool) (l : Int) : Bool := decide (0 < absv l ∧ absv l ≤ m.length) && (ix m (absv l - 1) == decide (0 < l))
def makesF (m : List Bool) (c : List Int) : Bool := c.any (makesLit m)
def modelsF (m : List Bool) (cs : List (List Int)) : Bool := cs.all (makesF m)
theorem absv_I64 {l : Int} (h : I64 l) : I64 (absv l) := by
  unfold absv; split
  · exact wneg_I64 _ h
  · exact h
theorem Makes_ok {c : List Int} {m : List Bool} {Q : Bool → Prop} (h : Q (makesF m c)) : V_Makes c m Q := by
  refine ⟨fun i => 0 ≤ i ∧ i ≤ c.length ∧ makesF m c = makesF m (c.drop i.toNat), fun i => (c.length - i).toNat, ⟨by omega, by omega, by simp⟩, ?_⟩
  rintro i ⟨g0, g1, g2⟩ hl
  refine ⟨fun hlt => ⟨⟨g0, hlt⟩, fun hi => size_ok ?_⟩, fun hge => ?_⟩
  · rw [drop_ix g0 hlt] at g2
    have g3 : makesF m c = (makesLit m (ix c i) || makesF m (c.drop (i + 1).toNat)) := g2
    clear g2
    have hai := absv_I64 hi
    generalize ix c i = x at *
    refine ⟨fun b => b = makesLit m x, ?_, fun hp => fun hlm => ⟨fun hle => ⟨by unfold I64 at *; omega, ⟨by omega, by omega⟩, ⟨g0, hlt⟩, fun _ => ?_⟩, fun hle => ?_⟩, fun hp => ?_⟩
    · rintro b rfl
      refine ⟨fun hb => ?_, fun hb => ⟨i64_succ hl g0 hlt, ⟨by omega, by omega, ?_⟩, by dsimp only; omega⟩⟩
      · rw [hb, Bool.true_or] at g3; rw [g3] at h; exact h
      · rw [hb, Bool.false_or] at g3; exact g3
    · simp [makesLit, hp, hle]
    · simp [makesLit, hle]
    · simp [makesLit, hp]
  · rw [drop_end g0 hge] at g2; rw [g2] at h; exact h
theorem Models_ok {cs : List (List Int)} {m : List Bool} {Q : Bool → Prop} (h : Q (modelsF m cs)) : V_Models cs m Q := by
  refine ⟨fun i => 0 ≤ i ∧ i ≤ cs.length ∧ modelsF m cs = modelsF m (cs.drop i.toNat), fun i => (cs.length - i).toNat, ⟨by omega, by omega, by simp⟩, ?_⟩
  rintro i ⟨g0, g1, g2⟩ hl
  refine ⟨fun hlt => ⟨⟨g0, hlt⟩, Makes_ok ⟨fun hb => ?_, fun hb => ⟨i64_succ hl g0 hlt, ⟨by omega, by omega, ?_⟩, by dsimp only; omega⟩⟩⟩, fun hge => ?_⟩
  · rw [drop_ix g0 hlt] at g2
    have g3 : modelsF m cs = (makesF m (ix cs i) && modelsF m (cs.drop (i + 1).toNat)) := g2
    simp only [Bool.not_eq_true'] at hb
    rw [hb, Bool.false_and] at g3; rw [g3] at h; exact h
  · rw [drop_ix g0 hlt] at g2
    have g3 : modelsF m cs = (makesF m (ix cs i) && modelsF m (cs.drop (i + 1).toNat)) := g2
    simp only [Bool.not_eq_false'] at hb
    rw [hb, Bool.true_and] at g3; exact g3
  · rw [drop_end g0 hge] at g2; rw [g2] at h; exact h
section sound
variable {n : Int} {m : List Bool}
theorem makes_lit (hn : okN n) (hm : (m.length : Int) = n) {l : Int} (hl : isLit n l = true) : makesLit m l = (ix m (av l - 1) == decide (0 < l)) := by
  obtain ⟨h1, h2, h3, h4⟩ := lit_av hn hl
  unfold makesLit
  rw [lit_abs hn hl]
  simp only [hm, h2, and_true, show (0 : Int) < av l by omega, decide_true, Bool.true_and]
theorem lit_neg {l : Int} (hl : isLit n l = true) : isLit n (-l) = true := by rw [isLit_iff] at *; omega
theorem makes_neg (hn : okN n) (hm : (m.length : Int) = n) {l : Int} (hl : isLit n l = true) : makesLit m (-l) = !makesLit m l := by
  rw [makes_lit hn hm hl, makes_lit hn hm (lit_neg hl)]
  rw [isLit_iff] at hl
  have e : av (-l) = av l := by unfold av; omega
  rw [e]
  by_cases hp : 0 < l
  · have : ¬ (0 < -l) := by omega
    rw [decide_eq_true hp, decide_eq_false this]; cases ix m (av l - 1) <;> rfl
  · have : 0 < -l := by omega
    rw [decide_eq_true this, decide_eq_false hp]; cases ix m (av l - 1) <;> rfl
def Agree (n : Int) (m : List Bool) (val : List Int) : Prop := ∀ l, isLit n l = true → valOf val l = 1 → makesLit m l = true
theorem valOf_neg {l : Int} (val : List Int) (h : l ≠ 0) : valOf val (-l) = -valOf val l := by
  have e : av (-l) = av l := by unfold av; omega
  unfold valOf
  rw [e]
  by_cases hp : l < 0
  · rw [if_neg (by omega), if_pos hp]; omega
  · rw [if_pos (by omega), if_neg hp]
theorem Agree.not (hn : okN n) (hm : (m.length : Int) = n) {val : List Int} (h : Agree n m val) {l : Int} (hl : isLit n l = true) (hv : valOf val l = -1) : makesLit m l = false := by
  have h1 := h (-l) (lit_neg hl) (by rw [valOf_neg val (by rw [isLit_iff] at hl; omega), hv]; rfl)
  rw [makes_neg hn hm hl] at h1
  simpa using h1
theorem valOf_set (hn : okN n) {val : List Int} (hv : Vals n val) {l x : Int} (hl : isLit n l = true) (hx : isLit n x = true) (h : valOf (setv val l) x = 1) : x = l ∨ valOf val x = 1 := by
  obtain ⟨h1, h2, _, _⟩ := lit_av hn hl
  obtain ⟨k1, k2, _, _⟩ := lit_av hn hx
  have hin := hv.in hn hl
  by_cases he : av x = av l
  · have e : ix (setv val l) (av x) = sgn l := by
      rw [he]
      unfold ix setv
      have : (av l).toNat < val.length := by unfold In at hin; omega
      simp [this]
    unfold valOf at h
    rw [e] at h
    left
    unfold sgn at h
    unfold av at he
    rw [isLit_iff] at hl hx
    split at h <;> split at h <;> omega
  · have e : ix (setv val l) (av x) = ix val (av x) := by
      unfold ix setv
      rw [List.getD_eq_getElem?_getD, List.getD_eq_getElem?_getD, List.getElem?_set_ne (by omega)]
    right
    unfold valOf at h ⊢
    rw [e] at h; exact h
theorem Agree.set (hn : okN n) {val : List Int} (hv : Vals n val) (h : Agree n m val) {l : Int} (hl : isLit n l = true) (ht : makesLit m l = true) : Agree n m (setv val l) := fun x hx hp => by
  rcases valOf_set hn hv hl hx hp with rfl | hp
  · exact ht
  · exact h x hx hp
theorem unit_agree (hn : okN n) (hm : (m.length : Int) = n) {val : List Int} (hv : Vals n val) (ha : Agree n m val) : ∀ (c : List Int) (o : Int), litsOk n c = true → ((o ≠ 0 ∧ makesLit m o = true) ∨ ∃ l ∈ c, makesLit m l = true) →
    (unitGo val o c).2 ≠ 0 ∧ ((unitGo val o c).2 = 1 → makesLit m (unitGo val o c).1 = true)
  | [], o, _, h => by
    rcases h with ⟨h1, h2⟩ | ⟨l, hl, _⟩
    · unfold unitGo; rw [if_neg h1]; exact ⟨by simp, fun _ => h2⟩
    · cases hl
  | l :: ls, o, hc, h => by
    have hc' : isLit n l = true ∧ litsOk n ls = true := by simpa [litsOk] using hc
    unfold unitGo
    split
    · exact ⟨by simp, fun h => by simp at h⟩
    · rename_i hp
      split
      · exact ⟨by simp, fun h => by simp at h⟩
      · rename_i hd
        split
        · rename_i hz
          refine unit_agree hn hm hv ha ls l hc'.2 ?_
          have hl0 : l ≠ 0 := by have := isLit_iff.1 hc'.1; omega
          rcases h with ⟨h1, h2⟩ | ⟨x, hx, h2⟩
          · by_cases e : l = o
            · exact .inl ⟨hl0, e ▸ h2⟩
            · exact absurd ⟨hz, h1, e⟩ hd
          · rcases List.mem_cons.1 hx with rfl | hx
            · exact .inl ⟨hl0, h2⟩
            · exact .inr ⟨x, hx, h2⟩
        · rename_i hz
          have hneg : valOf val l = -1 := by have := hv.of l; omega
          have hf := ha.not hn hm hc'.1 hneg
          refine unit_agree hn hm hv ha ls o hc'.2 ?_
          rcases h with h | ⟨x, hx, h2⟩
          · exact .inl h
          · rcases List.mem_cons.1 hx with rfl | hx
            · rw [hf] at h2; cases h2
            · exact .inr ⟨x, hx, h2⟩
theorem pass_agree (hn : okN n) (hm : (m.length : Int) = n) : ∀ {cs : List (List Int)} {val : List Int} {more : Bool}, Vals n val → Agree n m val → cs.all (litsOk n) = true → modelsF m cs = true →
    ∃ v' m', passF cs val more = some (v', m') ∧ Agree n m v'
  | [], val, more, hv, ha, _, _ => ⟨val, more, rfl, ha⟩
  | c :: cs, val, more, hv, ha, hc, hs => by
    rw [List.all_cons, Bool.and_eq_true] at hc
    have hs' : makesF m c = true ∧ modelsF m cs = true := by simpa [modelsF] using hs
    have hex : ∃ l ∈ c, makesLit m l = true := by simpa [makesF] using hs'.1
    obtain ⟨h0, h1⟩ := unit_agree hn hm hv ha c 0 hc.1 (.inr hex)
    unfold passF
    rw [if_neg h0]
    split
    · rename_i hone
      obtain ⟨h2, h3⟩ := unit_one hone
      exact pass_agree hn hm hv.set (ha.set hn hv (mem_lits hc.1 h2) (h1 hone)) hc.2 hs'.2
    · exact pass_agree hn hm hv ha hc.2 hs'.2
theorem propag_agree (hn : okN n) (hm : (m.length : Int) = n) {cs : List (List Int)} (hc : cs.all (litsOk n) = true) (hs : modelsF m cs = true) : ∀ (k : Nat) (val : List Int), Vals n val → Agree n m val → zeros val < k → propag cs k val ≠ none
  | 0, _, _, _, h => by omega
  | k + 1, val, hv, ha, h => by
    obtain ⟨v', m', h1, h2⟩ := pass_agree (more := false) hn hm hv ha hc hs
    obtain ⟨g1, g2, g3⟩ := pass_ok hn hv hc h1
    unfold propag
    rw [h1]
    cases m' with
    | false => simp
    | true =>
      rcases g3 rfl with g3 | g3
      · cases g3
      · exact propag_agree hn hm hc hs k v' g1 h2 (by omega)
theorem setAll_agree (hn : okN n) (hm : (m.length : Int) = n) : ∀ (ls : List Int) (val : List Int), Vals n val → Agree n m val → litsOk n ls = true → (∀ l ∈ ls, makesLit m l = true) → ∃ v, setAll ls val = some v ∧ Vals n v ∧ Agree n m v
  | [], val, hv, ha, _, _ => ⟨val, rfl, hv, ha⟩
  | l :: ls, val, hv, ha, hl, ht => by
    have hl' : isLit n l = true ∧ litsOk n ls = true := by simpa [litsOk] using hl
    unfold setAll
    split
    · rename_i hc
      have := ha.not hn hm hl'.1 hc
      rw [ht l (by simp)] at this; cases this
    · exact setAll_agree hn hm ls _ hv.set (ha.set hn hv hl'.1 (ht l (by simp))) hl'.2 fun x hx => ht x (by simp [hx])
theorem start_agree (n : Int) (m : List Bool) : Agree n m (start n) := fun l _ h => by
  have : ix (start n) (av l) = 0 := by
    unfold ix start
    rw [List.getD_eq_getElem?_getD, List.getElem?_replicate]
    split <;> rfl
  unfold valOf at h
  rw [this] at h
  split at h <;> omega
theorem follow_agree (hn : okN n) (hm : (m.length : Int) = n) {cs : List (List Int)} {given : List Int} (hc : cs.all (litsOk n) = true) (hs : modelsF m cs = true) (hg : litsOk n given = true) (ht : ∀ l ∈ given, makesLit m l = true) : followF n cs given ≠ none := by
  obtain ⟨v, h1, h2, h3⟩ := setAll_agree hn hm given (start n) (start_vals n) (start_agree n m) hg ht
  unfold followF
  rw [h1, Option.bind_some]
  exact propag_agree hn hm hc hs _ v h2 h3 (zeros_le hn h2)
theorem show_sound (hn : okN n) (hm : (m.length : Int) = n) : ∀ (ps : List (Bool × List Int)) (l : List (List Int)), allOk n ps = true → l.all (litsOk n) = true → modelsF m l = true → showGo n l false ps = false
  | [], l, _, _, _ => rfl
  | (g, c) :: ps, l, hp, hl, hs => by
    have hp' : litsOk n c = true ∧ allOk n ps = true := by simpa [allOk] using hp
    unfold showGo
    split
    · refine show_sound hn hm ps _ hp'.2 (goneF_all c hl) ?_
      unfold modelsF at *
      rw [List.all_eq_true] at *
      exact fun x hx => hs x (List.mem_of_mem_eraseP hx)
    · split
      · rfl
      · rename_i hf
        have hnone : followF n l (neg c) = none := by
          cases he : followF n l (neg c) with
          | none => rfl
          | some v => rw [he] at hf; simp at hf
        have hmk : makesF m c = true := by
          by_cases h : makesF m c = true
          · exact h
          · refine absurd hnone (follow_agree hn hm hl hs (neg_lits hp'.1) fun x hx => ?_)
            obtain ⟨y, hy, rfl⟩ := List.mem_map.1 hx
            rw [makes_neg hn hm (mem_lits hp'.1 hy)]
            have : makesLit m y = false := by
              simp only [makesF, Bool.not_eq_true, List.any_eq_false] at h
              simpa using h y hy
            rw [this]; rfl
        have hne : c ≠ [] := by rintro rfl; simp [makesF] at hmk
        have : (false || decide (c = [])) = false := by simp [hne]
        rw [this]
        refine show_sound hn hm ps _ hp'.2 (by simp [hl, hp'.1]) ?_
        unfold modelsF at *
        simp [hs, hmk]
theorem shown_none {cs : List (List Int)} {ps : List (Bool × List Int)} (hm : (m.length : Int) = n) (h : showF n cs ps = true) : modelsF m cs = false := by
  unfold showF at h
  split at h
  · cases h
  · rename_i hf
    simp only [ne_eq, Decidable.not_not] at hf
    obtain ⟨hn, _, hca⟩ := fault_zero hf
    rw [Bool.and_eq_true] at h
    cases hs : modelsF m cs with
    | false => rfl
    | true => rw [show_sound hn hm ps cs h.1 hca hs] at h; cases h.2
end sound
theorem lives_ok {Q : Bool → Prop} (h : Q true) : V_lives Q := by
  refine Checked_ok ⟨by simp, by simp [Fits]⟩ (by simp [Fits]) (Checked_ok ⟨by simp, by simp [Fits]⟩ (by simp [Fits]) ?_)
  rw [show showF 2 [[1, 2], [1, -2], [-1, 2], [-1, -2]] [(false, [1]), (false, [])] = true by decide +kernel, show showF 2 [[1, 2], [1, -2], [-1, 2], [-1, -2]] [(false, [])] = false by decide +kernel]
  exact h
theorem SatShown_ok {n : Int} {cs : List (List Int)} {ps : List (Bool × List Int)} {m : List Bool} {Q : Bool → Prop} (hc : FitsL cs) (hf : FitsP ps) (h : Q true) : V_SatShown n cs ps m Q := by
  refine lives_ok (And.intro (fun h => by cases h) (fun _ => Checked_ok hf hc.2 (Models_ok (fun _ => ?_))))
  have : ((!showF n cs ps) = true ∨ (!modelsF m cs) = true) ∨ (m.length : Int) ≠ n := by
    by_cases hm : (m.length : Int) = n
    · left
      cases hs : showF n cs ps with
      | false => left; rfl
      | true => right; rw [shown_none hm hs]; rfl
    · right; exact hm
  rw [decide_eq_true this]; exact h
/-! ### As the arguments come -/
theorem fitsL_of {cs : List (List Int)} (h : cs.length * 24 ≤ reachBytes ∧ ∀ y ∈ cs, y.length * 8 ≤ reachBytes ∧ ∀ x ∈ y, True) : FitsL cs := by
  simp only [reachBytes] at h
  exact ⟨by omega, fun c hc => by have := (h.2 c hc).1; unfold Fits; omega⟩
theorem fitsP_of {ps : List (Bool × List Int)} (h : ps.length * 32 ≤ reachBytes ∧ ∀ y ∈ ps, True ∧ (y.2.length * 8 ≤ reachBytes ∧ ∀ x ∈ y.2, True)) : FitsP ps := by
  simp only [reachBytes] at h
  exact ⟨by omega, fun c hc => by have := (h.2 c hc).2.1; unfold Fits; omega⟩
theorem SatProofs_law {n : Int} {cs : List (List Int)} {ps : List (Bool × List Int)} {Q : Bool → Prop} (hn : I64 n) (hc : cs.length * 24 ≤ reachBytes ∧ ∀ y ∈ cs, y.length * 8 ≤ reachBytes ∧ ∀ x ∈ y, True)
    (hp : ps.length * 32 ≤ reachBytes ∧ ∀ y ∈ ps, True ∧ (y.2.length * 8 ≤ reachBytes ∧ ∀ x ∈ y.2, True)) (h : Q true) : V_SatProofs n cs ps Q := SatProofs_ok (fitsL_of hc) (fitsP_of hp) h
theorem SatShown_law {n : Int} {cs : List (List Int)} {ps : List (Bool × List Int)} {m : List Bool} {Q : Bool → Prop} (hn : I64 n) (hc : cs.length * 24 ≤ reachBytes ∧ ∀ y ∈ cs, y.length * 8 ≤ reachBytes ∧ ∀ x ∈ y, True)
    (hp : ps.length * 32 ≤ reachBytes ∧ ∀ y ∈ ps, True ∧ (y.2.length * 8 ≤ reachBytes ∧ ∀ x ∈ y.2, True)) (hm : m.length * 1 ≤ reachBytes ∧ ∀ y ∈ m, True) (h : Q true) : V_SatShown n cs ps m Q := SatShown_ok (fitsL_of hc) (fitsP_of hp) h
end Go.Vc
