/- Regions that draw their order and hold operations that turn the world: one walk serves every order. -/
import Derived.Test.YtmdoicffgeihcaaGreatDoorBox
import Derived.Deep.Quiet
set_option linter.unusedVariables false
namespace Go.Vc
open Go
/-! ### Regions that draw their order and turn the world -/
abbrev Pend := List (Nat × ((World → Prop) → Prop))
/-- One value, in every world of a class; the world as it was. -/
def qIn (P : Program) (o : Oper) (a : Act) (C : World → Prop) (v : Value) : Prop := ∀ w, C w → (execOp a.eval o).run P w = .ok (.value v) w
/-- An operation that turns the world: what it yields. -/
def effAt (P : Program) (o : Oper) (a : Act) (w : World) (F : Value → World → Prop) : Prop :=
  match (execOp a.eval o).run P w with
  | .ok (.value v) w' => F v w'
  | .ok .skip w' => F undef w'
  | .ok (.enter f args) w' => Calls P f args w' (fun e w'' => ∃ v, e = .returned v ∧ F v w'')
  | .ok (.row row args) w' => Rows P row args w' F
  | _ => False
def wpDr (P : Program) (ops : Array Oper) (eff : Nat → Bool) (anc : Nat → Nat → Bool) (Q : Act → World → Prop) : List Nat → Pend → Act → (World → Prop) → Prop
  | [], _, a, C => ∀ w, C w → Q a w
  | i :: R, pend, a, C => ∃ o, ops[i]? = some o ∧
    (eff i = true → ∀ w, C w → effAt P o a w (fun v w' => ∃ C', C' w' ∧ (∀ p ∈ pend, anc p.1 i = false → p.2 C') ∧ wpDr P ops eff anc Q R pend (a.put o.dst v) C')) ∧
    (eff i = false → ∃ v, qIn P o a C v ∧ wpDr P ops eff anc Q R ((i, fun C' => qIn P o a C' v) :: pend) (a.put o.dst v) C)
theorem effAt_mono {P : Program} {o : Oper} {a : Act} {w : World} {F G : Value → World → Prop} (h : ∀ v w', F v w' → G v w') (hf : effAt P o a w F) : effAt P o a w G := by
  unfold effAt at *
  generalize (execOp a.eval o).run P w = r at *
  cases r with
  | ok n w' =>
    cases n <;> simp only at hf ⊢ <;> first
      | exact h _ _ hf
      | exact hf.mono fun e w'' ⟨v, he, hv⟩ => ⟨v, he, h _ _ hv⟩
      | exact hf.mono fun v w'' hv => h _ _ hv
      | exact hf
  | halt x w' => exact hf
theorem effAt_same {P : Program} {o : Oper} {a b : Act} {w : World} {F : Value → World → Prop} (he : execOp b.eval o = execOp a.eval o) (hf : effAt P o a w F) : effAt P o b w F := by
  unfold effAt at *; rw [he]; exact hf
section dr
variable {P : Program} {ops : Array Oper} {eff : Nat → Bool} {anc : Nat → Nat → Bool} {Q : Act → World → Prop}
theorem wpDr_pend : ∀ {R : List Nat} {pend pend' : Pend} {a : Act} {C : World → Prop}, (∀ p' ∈ pend', ∃ p ∈ pend, p.1 = p'.1 ∧ ∀ C, p.2 C → p'.2 C) → wpDr P ops eff anc Q R pend a C → wpDr P ops eff anc Q R pend' a C
  | [], _, _, _, _, _, h => h
  | i :: R, pend, pend', a, C, hp, ⟨o, ho, h1, h2⟩ => by
    refine ⟨o, ho, fun he w hw => ?_, fun he => ?_⟩
    · refine effAt_mono ?_ (h1 he w hw)
      rintro v w' ⟨C', g1, g2, g3⟩
      refine ⟨C', g1, fun p' hp' ha => ?_, wpDr_pend hp g3⟩
      obtain ⟨p, hm, e, k⟩ := hp p' hp'
      exact k _ (g2 p hm (e ▸ ha))
    · obtain ⟨v, g1, g2⟩ := h2 he
      refine ⟨v, g1, wpDr_pend (fun p' hp' => ?_) g2⟩
      rcases (List.mem_cons.1 hp').symm with hp' | hp'
      · obtain ⟨p, hm, e, k⟩ := hp p' hp'
        exact ⟨p, List.mem_cons_of_mem _ hm, e, k⟩
      · exact ⟨p', hp' ▸ List.mem_cons_self, rfl, fun _ h => h⟩
def noSel (o : Oper) : Prop := ∀ cs b, o.op ≠ .select cs b
theorem qIn_put {o o' : Oper} {a : Act} {C : World → Prop} {v u : Value} (hs : noSel o) (h : ∀ d, o'.dst = some d → d ∉ o.looksAt ops) : qIn P o (a.put o'.dst u) C v ↔ qIn P o a C v := by
  unfold qIn; rw [execOp_put (ops := ops) o hs a o'.dst u h]
/-- A quiet operation is pulled out of the list, ahead of quiet ones that it is apart from. -/
theorem wpDr_quiet {i : Nat} {oi : Oper} (hoi : ops[i]? = some oi) (hi : eff i = false) (hsi : noSel oi) : ∀ {L1 L2 : List Nat} {pend : Pend} {a : Act} {C : World → Prop},
    (∀ j ∈ L1, eff j = false ∧ ∀ oj, ops[j]? = some oj → noSel oj ∧ oi.apart ops oj = true) → wpDr P ops eff anc Q (L1 ++ i :: L2) pend a C → ∃ v, qIn P oi a C v ∧ wpDr P ops eff anc Q (L1 ++ L2) pend (a.put oi.dst v) C
  | [], L2, pend, a, C, _, ⟨o, ho, _, h2⟩ => by
    rw [hoi] at ho; cases ho
    obtain ⟨v, g1, g2⟩ := h2 hi
    exact ⟨v, g1, wpDr_pend (fun p hp => ⟨p, List.mem_cons_of_mem _ hp, rfl, fun _ h => h⟩) g2⟩
  | j :: L1, L2, pend, a, C, hL, ⟨oj, hoj, _, h2⟩ => by
    obtain ⟨hj, hj2⟩ := hL j (by simp)
    obtain ⟨hsj, hap⟩ := hj2 oj hoj
    obtain ⟨a1, a2, a3⟩ := Oper.apart_spec hap
    obtain ⟨vj, g1, g2⟩ := h2 hj
    obtain ⟨v, k1, k2⟩ := wpDr_quiet hoi hi hsi (fun x hx => hL x (by simp [hx])) g2
    refine ⟨v, (qIn_put (ops := ops) hsi a3).1 k1, oj, hoj, fun he => (by rw [hj] at he; cases he), fun _ => ⟨vj, (qIn_put (ops := ops) hsj a1).2 g1, ?_⟩⟩
    rw [Act.put_comm a v vj a2]
    refine wpDr_pend (fun p hp => ?_) k2
    rcases (List.mem_cons.1 hp).symm with hp | hp
    · exact ⟨p, List.mem_cons_of_mem _ hp, rfl, fun _ h => h⟩
    · rw [hp]
      exact ⟨_, List.mem_cons_self, rfl, fun C' h => (qIn_put (ops := ops) hsj a1).2 h⟩
/-- So is an effect. -/
theorem wpDr_eff {i : Nat} {oi : Oper} (hoi : ops[i]? = some oi) (hi : eff i = true) (hsi : noSel oi) : ∀ {L1 L2 : List Nat} {pend : Pend} {a : Act} {C : World → Prop} {w : World},
    (∀ j ∈ L1, eff j = false ∧ anc j i = false ∧ ∀ oj, ops[j]? = some oj → noSel oj ∧ oi.apart ops oj = true) → C w → wpDr P ops eff anc Q (L1 ++ i :: L2) pend a C →
    effAt P oi a w (fun v w' => ∃ C', C' w' ∧ (∀ p ∈ pend, anc p.1 i = false → p.2 C') ∧ wpDr P ops eff anc Q (L1 ++ L2) pend (a.put oi.dst v) C')
  | [], L2, pend, a, C, w, _, hw, ⟨o, ho, h1, _⟩ => by
    rw [hoi] at ho; cases ho
    exact h1 hi w hw
  | j :: L1, L2, pend, a, C, w, hL, hw, ⟨oj, hoj, _, h2⟩ => by
    obtain ⟨hj, hja, hj2⟩ := hL j (by simp)
    obtain ⟨hsj, hap⟩ := hj2 oj hoj
    obtain ⟨a1, a2, a3⟩ := Oper.apart_spec hap
    obtain ⟨vj, g1, g2⟩ := h2 hj
    have k := wpDr_eff hoi hi hsi (fun x hx => hL x (by simp [hx])) hw g2
    refine effAt_mono ?_ (effAt_same (execOp_put (ops := ops) oi hsi a oj.dst vj a3).symm k)
    rintro v w' ⟨C', c1, c2, c3⟩
    refine ⟨C', c1, fun p hp => c2 p (List.mem_cons_of_mem _ hp), oj, hoj, fun he => (by rw [hj] at he; cases he), fun _ => ⟨vj, ?_, ?_⟩⟩
    · have := c2 _ (List.mem_cons_self) hja
      exact (qIn_put (ops := ops) hsj a1).2 this
    · rw [Act.put_comm a v vj a2]
      refine wpDr_pend (fun p hp => ?_) c3
      rcases (List.mem_cons.1 hp).symm with hp | hp
      · exact ⟨p, List.mem_cons_of_mem _ hp, rfl, fun _ h => h⟩
      · rw [hp]
        exact ⟨_, List.mem_cons_self, rfl, fun C' h => (qIn_put (ops := ops) hsj a1).2 h⟩
/-- What an operation waits for. -/
def direct (ops : Array Oper) (i : Nat) : List Nat := match ops[i]? with | some o => (o.after.toList.filter (Region.binds .any)).map (·.on) | none => []
def ancB (ops : Array Oper) : Nat → Nat → Nat → Bool
  | 0, _, _ => false
  | k + 1, j, i => (direct ops i).any fun e => Nat.beq e j || ancB ops k j e
def drRel (ops : Array Oper) (eff : Nat → Bool) (anc : Nat → Nat → Bool) (j i : Nat) : Bool :=
  (!(direct ops j).contains i) && (anc j i || (!eff j && (match ops[i]?, ops[j]? with | some oi, some oj => oi.apart ops oj | _, _ => false)))
def pairsB (r : Nat → Nat → Bool) : List Nat → Bool
  | [] => true
  | j :: R => R.all (r j) && pairsB r R
/-- The closed check on a region: no guards, no select; the order of the walk. -/
def drawB (ops : Array Oper) (eff : Nat → Bool) (anc : Nat → Nat → Bool) (σ : List Nat) : Bool :=
  Region.noSelect ops && ops.all (fun o => o.guard.isNone) && (List.range ops.size).all (fun i => σ.contains i) && Nat.beq σ.length ops.size && σ.all (fun i => Nat.blt i ops.size) && pairsB (fun j i => !Nat.beq j i) σ &&
  (List.range ops.size).all (fun i => (direct ops i).all fun e => Nat.blt e ops.size && !Nat.beq e i) && pairsB (drRel ops eff anc) σ
theorem pairsB_spec {r : Nat → Nat → Bool} : ∀ {R : List Nat}, pairsB r R = true → R.Pairwise (fun j i => r j i = true)
  | [], _ => List.Pairwise.nil
  | j :: R, h => by
    simp only [pairsB, Bool.and_eq_true, List.all_eq_true] at h
    exact List.Pairwise.cons h.1 (pairsB_spec h.2)
theorem mem_direct {i : Nat} {o : Oper} (ho : ops[i]? = some o) {e : Edge} (he : e ∈ o.after) (hb : Region.binds .any e = true) : e.on ∈ direct ops i := by
  unfold direct; rw [ho]
  exact List.mem_map.2 ⟨e, List.mem_filter.2 ⟨by simpa using he, hb⟩, rfl⟩
theorem direct_mem {i e : Nat} (h : e ∈ direct ops i) : ∃ o ed, ops[i]? = some o ∧ ed ∈ o.after ∧ Region.binds .any ed = true ∧ ed.on = e := by
  unfold direct at h
  split at h
  · rename_i o ho
    obtain ⟨ed, h1, h2⟩ := List.mem_map.1 h
    obtain ⟨h3, h4⟩ := List.mem_filter.1 h1
    exact ⟨o, ed, ho, by simpa using h3, h4, h2⟩
  · cases h
theorem anc_listed {listed : Array Bool} (hd : ∀ i, listed.getD i false = true → ∀ e ∈ direct ops i, listed.getD e false = true) : ∀ (k j i : Nat), (∀ e ∈ direct ops i, listed.getD e false = true) → ancB ops k j i = true → listed.getD j false = true
  | 0, _, _, _, h => by cases h
  | k + 1, j, i, hi, h => by
    simp only [ancB, List.any_eq_true, Bool.or_eq_true] at h
    obtain ⟨e, he, h | h⟩ := h
    · have := Nat.eq_of_beq_eq_true h
      subst this; exact hi _ he
    · exact anc_listed hd k j e (hd e (hi e he)) h
/-- The table of what each operation waits for, told and checked. -/
def nthL : List (List Nat) → Nat → List Nat
  | [], _ => []
  | x :: _, 0 => x
  | _ :: l, n + 1 => nthL l n
def memN (j : Nat) : List Nat → Bool
  | [] => false
  | k :: l => bif Nat.beq j k then true else memN j l
theorem nthL_eq : ∀ (l : List (List Nat)) (n : Nat), nthL l n = l.getD n []
  | [], _ => by simp [nthL]
  | _ :: _, 0 => rfl
  | _ :: l, n + 1 => by simp [nthL, nthL_eq l n]
theorem memN_eq (j : Nat) : ∀ (l : List Nat), memN j l = true ↔ j ∈ l
  | [] => by simp [memN]
  | k :: l => by
    have ih := memN_eq j l
    unfold memN
    cases hb : Nat.beq j k with
    | true => have := Nat.eq_of_beq_eq_true hb; subst this; simp
    | false =>
      have hne : j ≠ k := fun e => by subst e; simp at hb
      simp [ih, hne]
def ancT (tbl : List (List Nat)) (j i : Nat) : Bool := memN j (nthL tbl i)
def tabB (ops : Array Oper) (tbl : List (List Nat)) (σ : List Nat) : Bool :=
  Nat.ble tbl.length ops.size && (List.range ops.size).all fun i => (direct ops i).all (fun e => Nat.blt (σ.idxOf e) (σ.idxOf i)) && (tbl.getD i []).all fun j => (direct ops i).contains j || (direct ops i).any fun e => (tbl.getD e []).contains j
theorem ancT_listed {tbl : List (List Nat)} {σ : List Nat} (h : tabB ops tbl σ = true) {listed : Array Bool} (hd : ∀ i, listed.getD i false = true → ∀ e ∈ direct ops i, listed.getD e false = true) : ∀ j i, (∀ e ∈ direct ops i, listed.getD e false = true) → ancT tbl j i = true → listed.getD j false = true := by
  simp only [tabB, Bool.and_eq_true, List.all_eq_true, List.mem_range, Bool.or_eq_true, List.any_eq_true, Nat.blt_eq, List.contains_eq_mem, decide_eq_true_eq] at h
  obtain ⟨hl, h⟩ := h
  have hl' : tbl.length ≤ ops.size := by simpa using hl
  have key : ∀ (m : Nat) (j i : Nat), σ.idxOf i < m → (∀ e ∈ direct ops i, listed.getD e false = true) → j ∈ tbl.getD i [] → listed.getD j false = true := by
    intro m
    induction m with
    | zero => intro j i hi; omega
    | succ m ih =>
      intro j i hi hdi hj
      have hlt : i < ops.size := by
        rcases Nat.lt_or_ge i tbl.length with h | h
        · omega
        · rw [List.getD_eq_getElem?_getD, List.getElem?_eq_none h] at hj; simp at hj
      obtain ⟨h1, h2⟩ := h i hlt
      rcases h2 j hj with h3 | ⟨e, h3, h4⟩
      · exact hdi j h3
      · exact ih j e (by have := h1 e h3; omega) (hd e (hdi e h3)) h4
  intro j i hdi hj
  exact key (σ.idxOf i + 1) j i (by omega) hdi (by rw [ancT, memN_eq, nthL_eq] at hj; exact hj)
theorem wpAny_of_dr {Qx : Exit → Act → World → Prop} (hanc : ∀ (listed : Array Bool), (∀ i, listed.getD i false = true → ∀ e ∈ direct ops i, listed.getD e false = true) → ∀ j i, (∀ e ∈ direct ops i, listed.getD e false = true) → anc j i = true → listed.getD j false = true) (hsel : Region.noSelect ops = true) (hg : ∀ o ∈ ops, o.guard = none)
    (hdir : ∀ i, ∀ e ∈ direct ops i, e < ops.size ∧ e ≠ i) : ∀ (m : Nat) (R : List Nat) (listed : Array Bool) (a : Act) (w : World) (C : World → Prop), R.length = m → listed.size = ops.size → (∀ i, i ∈ R ↔ (i < ops.size ∧ listed.getD i false = false)) → R.Nodup →
    R.Pairwise (fun j i => drRel ops eff anc j i = true) → (∀ i, listed.getD i false = true → ∀ e ∈ direct ops i, listed.getD e false = true) →
    wpDr P ops eff anc (fun a w => Qx .normal a w) R [] a C → C w → wpAny P .any ops Qx m listed a w
  | m, R, listed, a, w, C, hlen, hsz, hmem, hnd, hpw, hdc, h, hw => by
    have hready0 : Region.ready .any ops listed = [] → R = [] := by
      intro hr
      cases R with
      | nil => rfl
      | cons i R =>
        exfalso
        have hi := (hmem i).1 (by simp)
        have hio : ops[i]? = some ops[i] := Array.getElem?_eq_getElem hi.1
        have : i ∈ Region.ready .any ops listed := by
          rw [mem_ready]
          refine ⟨?_, ops[i], hio, fun e he hb => ?_⟩
          · have := hi.2
            rw [Array.getD_eq_getD_getElem?, Array.getElem?_eq_getElem (by omega)] at this ⊢
            simpa using this
          · have hem := mem_direct hio he hb
            cases hl : listed.getD e.on false with
            | true => rfl
            | false =>
              exfalso
              have h1 := hdir i e.on hem
              have h2 : e.on ∈ i :: R := (hmem e.on).2 ⟨h1.1, hl⟩
              rcases List.mem_cons.1 h2 with h2 | h2
              · exact h1.2 h2
              · have h3 := (List.pairwise_cons.1 hpw).1 _ h2
                simp only [drRel, Bool.and_eq_true, Bool.not_eq_true', List.contains_eq_mem, decide_eq_false_iff_not] at h3
                exact h3.1 hem
        rw [hr] at this; cases this
    have hQ : Region.ready .any ops listed = [] → Qx .normal a w := by
      intro hr
      have := hready0 hr
      subst this
      exact h w hw
    cases m with
    | zero =>
      have : R = [] := List.length_eq_zero_iff.1 hlen
      subst this
      have hr : Region.ready .any ops listed = [] := by
        cases hr : Region.ready .any ops listed with
        | nil => rfl
        | cons i r =>
          have hi : i ∈ Region.ready .any ops listed := by rw [hr]; simp
          obtain ⟨h1, o, ho, _⟩ := mem_ready.1 hi
          have hlt := (Array.getElem?_eq_some_iff.1 ho).1
          have := (hmem i).2 ⟨hlt, by
            rw [Array.getD_eq_getD_getElem?, Array.getElem?_eq_getElem (by omega)] at h1 ⊢
            simpa using h1⟩
          cases this
      exact ⟨hr, hQ hr⟩
    | succ m =>
      refine ⟨hQ, fun i hi => ?_⟩
      obtain ⟨h1, oi, ho, hall⟩ := mem_ready.1 hi
      have hlt := (Array.getElem?_eq_some_iff.1 ho).1
      have hlf : listed.getD i false = false := by
        rw [Array.getD_eq_getD_getElem?, Array.getElem?_eq_getElem (by omega)] at h1 ⊢
        simpa using h1
      have hdl : ∀ e ∈ direct ops i, listed.getD e false = true := fun e he => by
        obtain ⟨o', ed, g1, g2, g3, g4⟩ := direct_mem he
        rw [ho] at g1; cases g1
        rw [← g4]; exact hall ed g2 g3
      obtain ⟨L1, L2, rfl⟩ := List.append_of_mem ((hmem i).2 ⟨hlt, hlf⟩)
      have hL1 : ∀ j ∈ L1, eff j = false ∧ anc j i = false ∧ ∀ oj, ops[j]? = some oj → noSel oj ∧ oi.apart ops oj = true := by
        intro j hj
        have hju := ((hmem j).1 (List.mem_append_left _ hj)).2
        have hanc : anc j i = false := by
          cases hb : anc j i with
          | false => rfl
          | true => rw [hanc listed hdc j i hdl hb] at hju; cases hju
        have hr := (List.pairwise_append.1 hpw).2.2 j hj i (by simp)
        simp only [drRel, hanc, Bool.false_or, Bool.and_eq_true, Bool.not_eq_true'] at hr
        obtain ⟨_, he, hap⟩ := hr
        refine ⟨he, hanc, fun oj hoj => ⟨fun cs b => Region.noSelect_spec hsel j oj cs b hoj, ?_⟩⟩
        rw [ho, hoj] at hap; exact hap
      have hsi : noSel oi := fun cs b => Region.noSelect_spec hsel i oi cs b ho
      have hwant : ∀ l, Region.wanted oi l = true := fun l => by
        have := hg oi (Array.mem_of_getElem? ho)
        simp [Region.wanted, this]
      have key : ∀ (a' : Act) (w' : World) (C' : World → Prop), C' w' → wpDr P ops eff anc (fun a w => Qx .normal a w) (L1 ++ L2) [] a' C' → wpAny P .any ops Qx m (listed.setIfInBounds i true) a' w' := by
        intro a' w' C' hw' h'
        have hgd : ∀ j, (listed.setIfInBounds i true).getD j false = if i = j then true else listed.getD j false := by
          intro j
          rw [Array.getD_eq_getD_getElem?, Array.getElem?_setIfInBounds, Array.getD_eq_getD_getElem?]
          split
          · rename_i e; subst e; simp [hsz, hlt]
          · rfl
        have hnd' := hnd
        rw [List.nodup_append] at hnd'
        refine wpAny_of_dr hanc hsel hg hdir m (L1 ++ L2) _ a' w' C' (by simp at hlen ⊢; omega) (by simp [hsz]) (fun j => ?_) ?_ ?_ (fun j hj e he => ?_) h' hw'
        · rw [hgd]
          have := hmem j
          constructor
          · intro hj
            have hne : ¬ i = j := by
              rintro rfl
              rcases List.mem_append.1 hj with hj | hj
              · exact (hnd'.2.2 i hj i (by simp)) rfl
              · exact (List.nodup_cons.1 hnd'.2.1).1 hj
            rw [if_neg hne]
            exact this.1 (by rcases List.mem_append.1 hj with hj | hj <;> simp [hj])
          · rintro ⟨g1, g2⟩
            by_cases hne : i = j
            · rw [if_pos hne] at g2; cases g2
            · rw [if_neg hne] at g2
              have := this.2 ⟨g1, g2⟩
              rcases List.mem_append.1 this with hj | hj
              · simp [hj]
              · rcases List.mem_cons.1 hj with hj | hj
                · exact absurd hj.symm hne
                · simp [hj]
        · exact hnd.sublist (List.Sublist.append (List.Sublist.refl _) (List.sublist_cons_self _ _))
        · exact hpw.sublist (List.Sublist.append (List.Sublist.refl _) (List.sublist_cons_self _ _))
        · rw [hgd] at hj ⊢
          split
          · rfl
          · split at hj
            · rename_i e'; subst e'; exact hdl e he
            · exact hdc j hj e he
      unfold wpOp
      rw [ho]
      simp only [hwant, if_true]
      left
      cases he : eff i with
      | false =>
        obtain ⟨v, g1, g2⟩ := wpDr_quiet ho he hsi (fun j hj => ⟨(hL1 j hj).1, (hL1 j hj).2.2⟩) h
        unfold Oper.wp
        rw [g1 w hw, Oper.upon_value]
        exact key _ _ _ hw g2
      | true =>
        have g := wpDr_eff ho he hsi hL1 hw h
        unfold effAt at g
        unfold Oper.wp
        generalize (execOp a.eval oi).run P w = r at *
        cases r with
        | ok n w' =>
          cases n <;> simp only at g
          case value v =>
            obtain ⟨C', c1, _, c3⟩ := g
            exact key _ _ _ c1 c3
          case skip =>
            obtain ⟨C', c1, _, c3⟩ := g
            exact key _ _ _ c1 c3
          case enter f args =>
            rw [Oper.upon_enter]
            refine g.mono fun e w'' ⟨v, hev, C', c1, _, c3⟩ => ?_
            subst hev
            exact key _ _ _ c1 c3
          case row row args =>
            rw [Oper.upon_row]
            exact g.mono fun v w'' ⟨C', c1, _, c3⟩ => key _ _ _ c1 c3
        | halt x w' => exact g.elim
/-- A region that draws its order: one walk serves every order. -/
theorem wp_region_dr {id : Nat} {tbl : List (List Nat)} {Qx : Exit → Act → World → Prop} {a : Act} {w : World} {σ : List Nat} {C : World → Prop} (hm : P.follows .mixedOrders = true) (hB : (drawB ops eff (ancT tbl) σ && tabB ops tbl σ) = true) (hC : C { w with drawn := w.drawn + 1 })
    (h : wpDr P ops eff (ancT tbl) (fun a w => Qx .normal a w) σ [] a C) : (Code.region id ops true).wp P Qx a w := by
  rw [Bool.and_eq_true] at hB
  obtain ⟨hB, hT⟩ := hB
  simp only [drawB, Bool.and_eq_true, List.all_eq_true, List.mem_range, Bool.not_eq_true', Nat.blt_eq] at hB
  obtain ⟨⟨⟨⟨⟨⟨⟨h1, h2⟩, h3⟩, h4⟩, h5⟩, h6⟩, h7⟩, h8⟩ := hB
  have hlen : σ.length = ops.size := Nat.eq_of_beq_eq_true h4
  have hg0 : ∀ i, (Array.replicate ops.size false).getD i false = false := fun i => by
    rw [Array.getD_eq_getD_getElem?, Array.getElem?_replicate]; split <;> rfl
  refine wp_region_any hm ?_
  have := wpAny_of_dr (P := P) (ops := ops) (eff := eff) (anc := ancT tbl) (Qx := Qx) (fun listed hd => ancT_listed hT hd) h1 (fun o ho => ?_) (fun i e he => ?_) ops.size σ (Array.replicate ops.size false) a _ C hlen (by simp) (fun i => ?_) ?_ (pairsB_spec h8) (fun i hi => by rw [hg0] at hi; cases hi) h hC
  · exact this
  · have := Array.all_eq_true_iff_forall_mem.1 h2 o ho
    simpa using this
  · have hi : i < ops.size := by
      obtain ⟨o, _, ho, _⟩ := direct_mem he
      exact (Array.getElem?_eq_some_iff.1 ho).1
    have := h7 i hi e he
    refine ⟨this.1, fun e' => ?_⟩
    have h9 := this.2
    rw [e'] at h9; simp at h9
  · rw [hg0]
    constructor
    · intro hi; exact ⟨h5 i hi, rfl⟩
    · intro hi
      have := h3 i hi.1
      simpa using this
  · have := pairsB_spec h6
    refine List.Pairwise.imp ?_ this
    intro x y hxy e
    subst e; simp at hxy
end dr
/-! ### The same in the calculus -/
def Wd (P : Program) (ops : Array Oper) (eff : Nat → Bool) (anc : Nat → Nat → Bool) (Qx : Exit → Act → World → Prop) (n : Nat) (l : List (Nat × Value)) (R : List Nat) (pend : Pend) (C : World → Prop) : Prop :=
  ∀ a, Fr n l a → wpDr P ops eff anc (fun a w => Qx .normal a w) R pend a C
/-- What is asked behind an effect. -/
def DQ (P : Program) (ops : Array Oper) (eff : Nat → Bool) (anc : Nat → Nat → Bool) (Qx : Exit → Act → World → Prop) (i : Nat) (R : List Nat) (pend : Pend) : Exit → Act → World → Prop := fun e a' w' =>
  e = .normal ∧ a'.defers = [] ∧ ∃ C', C' w' ∧ (∀ p ∈ pend, anc p.1 i = false → p.2 C') ∧ wpDr P ops eff anc (fun a w => Qx .normal a w) R pend a' C'
section
variable {P : Program} {ops : Array Oper} {eff : Nat → Bool} {anc : Nat → Nat → Bool} {Qx : Exit → Act → World → Prop} {n : Nat} {l : List (Nat × Value)} {R : List Nat} {pend : Pend} {C : World → Prop} {w : World}
theorem WC.drawn {id : Nat} (tbl : List (List Nat)) {ol : List Oper} {σ : List Nat} (effs : List Nat) (hm : P.follows .mixedOrders = true) (hB : (drawB ol.toArray (fun i => effs.contains i) (ancT tbl) σ && tabB ol.toArray tbl σ) = true) (hC : C { w with drawn := w.drawn + 1 })
    (h : Wd P ol.toArray (fun i => effs.contains i) (ancT tbl) Qx n l σ [] C) : WC P Qx n l (.region id ol.toArray true) w := fun a ha => wp_region_dr hm hB hC (h a ha)
theorem Wd.nil (h : ∀ w, C w → WQ Qx .normal n l w) : Wd P ops eff anc Qx n l [] pend C := fun a ha w hw => h w hw a ha
theorem Wd.sub {m : List (Nat × Value)} (hs : Vc.sub l m) (h : Wd P ops eff anc Qx n m R pend C) : Wd P ops eff anc Qx n l R pend C := fun a ha => h a (ha.of_sub hs)
theorem Wd.step {i d : Nat} {o : Oper} {v : Value} (ho : ops[i]? = some o) (he : eff i = false) (hd : o.dst = some d) (hdn : Nat.blt d n = true) (hx : Exv P n l C o v)
    (k : ∀ p : (World → Prop) → Prop, (∀ C', Exv P n l C' o v → p C') → Wd P ops eff anc Qx n ((d, v) :: l) R ((i, p) :: pend) C) : Wd P ops eff anc Qx n l (i :: R) pend C := fun a ha =>
  ⟨o, ho, fun h => (by rw [he] at h; cases h), fun _ => ⟨v, fun w hw => hx w hw a ha, by
    have := k (fun C' => qIn P o a C' v) (fun C' h w hw => h w hw a ha) (a.put (some d) v) (ha.put hdn v)
    rw [hd]; exact this⟩⟩
/-- A value that needs no world. -/
theorem Wd.run {i d : Nat} {o : Oper} {v : Value} (ho : ops[i]? = some o) (he : eff i = false) (hd : o.dst = some d) (hdn : Nat.blt d n = true) (hx : ∀ C, Exv P n l C o v)
    (k : ∀ p : (World → Prop) → Prop, (∀ C', p C') → Wd P ops eff anc Qx n ((d, v) :: l) R ((i, p) :: pend) C) : Wd P ops eff anc Qx n l (i :: R) pend C :=
  Wd.step ho he hd hdn (hx C) fun p hp => k p fun C' => hp C' (hx C')
theorem Wd.runx {D : Value → Prop} {i d : Nat} {o : Oper} (ho : ops[i]? = some o) (he : eff i = false) (hd : o.dst = some d) (hdn : Nat.blt d n = true) (hx : ∃ v, D v ∧ ∀ C, Exv P n l C o v)
    (k : ∀ v, D v → ∀ p : (World → Prop) → Prop, (∀ C', p C') → Wd P ops eff anc Qx n ((d, v) :: l) R ((i, p) :: pend) C) : Wd P ops eff anc Qx n l (i :: R) pend C :=
  let ⟨v, hv, h⟩ := hx; Wd.run ho he hd hdn h (k v hv)
/-- A value that stands in every world that a segment lies in. -/
theorem Wd.runs {w0 : World} {H : View} {fp L : Seg} {D : Value → Prop} {i d : Nat} {o : Oper} (ho : ops[i]? = some o) (he : eff i = false) (hd : o.dst = some d) (hdn : Nat.blt d n = true)
    (hx : ∃ v, D v ∧ ∀ K L, View.le H K → Exv P n l (St w0 K (fp ++ L)) o v) (hC : ∀ w, C w → St w0 H (fp ++ L) w)
    (k : ∀ v, D v → ∀ p : (World → Prop) → Prop, (∀ K L C', View.le H K → (∀ w, C' w → St w0 K (fp ++ L) w) → p C') → Wd P ops eff anc Qx n ((d, v) :: l) R ((i, p) :: pend) C) : Wd P ops eff anc Qx n l (i :: R) pend C :=
  let ⟨v, hv, h⟩ := hx
  Wd.step ho he hd hdn ((h H L (View.le.refl _)).of hC) fun p hp => k v hv p fun K L C' hle hc => hp C' ((h K L hle).of hc)
/-- A cell of an own block. -/
theorem Wd.runb {w0 : World} {H : View} {L : Seg} {b off : Nat} {arr : Array Value} {T : TypeId} {u : Value} {i d : Nat} {o : Oper} (ho : ops[i]? = some o) (he : eff i = false) (hd : o.dst = some d) (hdn : Nat.blt d n = true)
    (hx : ∀ (K : View) (L : Seg) (arr' : Array Value), arr'[off]? = some u → Exv P n l (St w0 K ([(b, .cells arr' T (0, 0))] ++ L)) o u) (hu : arr[off]? = some u) (hC : ∀ w, C w → St w0 H ([(b, .cells arr T (0, 0))] ++ L) w)
    (k : ∀ p : (World → Prop) → Prop, (∀ (K : View) (L : Seg) (arr' : Array Value) (C' : World → Prop), arr'[off]? = some u → (∀ w, C' w → St w0 K ([(b, .cells arr' T (0, 0))] ++ L) w) → p C') → Wd P ops eff anc Qx n ((d, u) :: l) R ((i, p) :: pend) C) : Wd P ops eff anc Qx n l (i :: R) pend C :=
  Wd.step ho he hd hdn ((hx H L arr hu).of hC) fun p hp => k p fun K L arr' C' h1 hc => hp C' ((hx K L arr' h1).of hc)
/-- An effect: by the rules of the sequential calculus. -/
theorem Wd.turn {i : Nat} {o : Oper} (ho : ops[i]? = some o) (he : eff i = true) (hg : o.guard = none) (h : ∀ w, C w → WL P ops (DQ P ops eff anc Qx i R pend) n l [o] w) : Wd P ops eff anc Qx n l (i :: R) pend C := fun a ha => by
  refine ⟨o, ho, fun _ w hw => ?_, fun h => (by rw [he] at h; cases h)⟩
  have h1 := h w hw a ha
  unfold wpList at h1
  rw [if_pos (by simp [Region.wanted, hg])] at h1
  rcases h1 with h2 | ⟨_, a', w', h2⟩
  · replace h2 : o.wp P a w (fun a' w' => DQ P ops eff anc Qx i R pend .normal a' w') (DQ P ops eff anc Qx i R pend) := h2
    unfold Oper.wp at h2
    unfold effAt
    generalize (execOp a.eval o).run P w = r at *
    cases r with
    | ok nx w' =>
      cases nx <;> simp only [Oper.upon] at h2 ⊢
      case value v => exact h2.2.2
      case skip => exact h2.2.2
      case defer d =>
        have := h2.2.1
        generalize o.dst = od at this
        cases od <;> simp [Act.put] at this
      case enter f args =>
        refine h2.mono fun e w'' hq => ?_
        cases e with
        | returned v => exact ⟨v, rfl, hq.2.2⟩
        | panicked c => exact absurd hq.1 (by simp)
        | outgrown =>
          obtain ⟨_, _, h3⟩ := hq
          exact absurd h3.1 (by simp)
      case row row args => exact h2.mono fun v w'' hq => hq.2.2
    | halt x w' =>
      cases x <;> simp only [Oper.upon] at h2
      all_goals first | exact h2.elim | exact absurd h2.1 (by simp)
  · exact absurd h2.1 (by simp)
theorem DQ.mk {i : Nat} {C' : World → Prop} (hC : C' w) (hp : ∀ p ∈ pend, anc p.1 i = false → p.2 C') (h : Wd P ops eff anc Qx n l R pend C') : WQ (DQ P ops eff anc Qx i R pend) .normal n l w := fun a ha => ⟨rfl, ha.defers, C', hC, hp, h a ha⟩
/-- What still may come keeps its value. -/
def PendB (anc : Nat → Nat → Bool) (i : Nat) (C' : World → Prop) : Pend → Prop
  | [] => True
  | p :: l => (anc p.1 i = true ∨ p.2 C') ∧ PendB anc i C' l
theorem PendB.all {anc : Nat → Nat → Bool} {i : Nat} {C' : World → Prop} : ∀ {pend : Pend}, PendB anc i C' pend → ∀ p ∈ pend, anc p.1 i = false → p.2 C'
  | p :: l, ⟨h1, h2⟩, q, hq, ha => by
    rcases List.mem_cons.1 hq with rfl | hq
    · rcases h1 with h1 | h1
      · rw [h1] at ha; cases ha
      · exact h1
    · exact PendB.all h2 q hq ha
theorem DQ.mk2 {i : Nat} {C' : World → Prop} (hC : C' w) (hp : PendB anc i C' pend) (h : Wd P ops eff anc Qx n l R pend C') : WQ (DQ P ops eff anc Qx i R pend) .normal n l w := DQ.mk hC hp.all h
theorem exAll {D : Value → Prop} {o : Oper} (h : ∃ v, D v ∧ Exv P n l (fun _ => True) o v) : ∃ v, D v ∧ ∀ C, Exv P n l C o v := let ⟨v, hv, hx⟩ := h; ⟨v, hv, fun _ => hx.of fun _ _ => trivial⟩
section loads
variable {w0 : World} {H : View} {dst : Option Tmp} {ty : TypeId} {pos : String} {af : Array Edge} {gd : Option (Nat × Bool)}
theorem ex_load_s {α : Type} {c : Codec α} {t : TypeId} {x : Operand} {p : Value} {z : α} (hag : ∀ w, (isAgg t).run P w = .ok false w) (h1 : c.size = 1)
    (hx : opv l x = some p) (hp : IsPt H c p z) : ∃ u, c.rep H [u] z ∧ ∀ K L, View.le H K → Exv P n l (St w0 K (([] : Seg) ++ L)) ⟨dst, .load t x, ty, pos, af, gd⟩ u := by
  obtain ⟨b, off, arr, T, fz, pre, cs, rest, rfl, e2, e3, e4, e5⟩ := hp
  have hl := c.len e5
  rw [h1] at hl
  match cs, hl with
  | [u], _ =>
    refine ⟨u, e5, fun K L hle w hw a ha => ?_⟩
    have hb := hw.fits _ _ (hle _ _ e2)
    have hc : w.cell? ⟨b, off, none⟩ = some u := by
      simp only [World.cell?, hb]
      simp only [Option.isSome_none, Bool.false_eq_true, if_false]
      rw [← Array.getElem?_toList, e3, List.getElem?_append_right (by omega), e4]; simp
    simp [execOp, Instr.loadAt, Instr.sureAddr, ha.eval hx, run_load_cell hag hc]
theorem ex_load_own_s {α : Type} [Inhabited α] {c : Codec α} {T : TypeId} {fp : Seg} {t : TypeId} {x : Operand} {v p : Value} {xs : List α} {i : Int}
    (hag : ∀ w, (isAgg t).run P w = .ok false w) (h1 : c.size = 1) (hx : opv l x = some p) (hs : OwnSl H c T v xs fp) (hp : OwnPt c v i.toNat p) (h : 0 ≤ i ∧ i < xs.length) :
    ∃ u, c.rep H [u] (ix xs i) ∧ ∀ K L, View.le H K → Exv P n l (St w0 K (fp ++ L)) ⟨dst, .load t x, ty, pos, af, gd⟩ u := by
  rcases hs with ⟨rfl, rfl, rfl⟩ | ⟨b, cap, arr, cs, rst, rfl, rfl, e3, e4, e5, e6, e7⟩
  · simp at h; omega
  · obtain ⟨b', n', cap', hv, rfl⟩ := hp
    cases hv
    obtain ⟨a', m, b', f1, f2, f3, f4, f5⟩ := Codec.reps_get e7 (ix_get h.1 h.2)
    have hl := c.len f3
    rw [h1] at hl f2
    match m, hl with
    | [u], _ =>
      refine ⟨u, f3, fun K L _ w hw a ha => ?_⟩
      have hg := hw.own (b, .cells arr T (0, 0)) (by simp)
      have hcell : w.cell? ⟨b, i.toNat * c.size, none⟩ = some u := by
        simp only [World.cell?, hg]
        simp only [Option.isSome_none, Bool.false_eq_true, if_false]
        rw [← Array.getElem?_toList, e3, f1, h1, List.append_assoc, List.getElem?_append_right (by omega), f2]; simp
      simp [execOp, Instr.loadAt, Instr.sureAddr, ha.eval hx, run_load_cell hag hcell]
end loads
end
end Go.Vc
