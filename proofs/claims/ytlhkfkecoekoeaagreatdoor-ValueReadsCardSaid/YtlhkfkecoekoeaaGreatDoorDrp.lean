/- Regions that draw their order, one of whose operations may panic. Made out of XDraw by program, then turned by hand. -/
import Derived.Test.YtlhkfkecoekoeaaGreatDoorByt
set_option linter.unusedVariables false
set_option linter.unusedSimpArgs false
namespace Go.Vc
open Go
theorem put_defers {a : Act} {d : Option Tmp} {v : Value} (h : a.defers = []) : (a.put d v).defers = [] := by cases d <;> exact h
namespace DP
def effAt (Pn : List PanicEntry → World → Prop) (P : Program) (o : Oper) (a : Act) (w : World) (F : Value → World → Prop) : Prop :=
  match (execOp a.eval o).run P w with
  | .ok (.value v) w' => F v w'
  | .ok .skip w' => F undef w'
  | .ok (.enter f args) w' => Calls P f args w' (fun e w'' => (∃ v, e = .returned v ∧ F v w'') ∨ (∃ c, e = .panicked c ∧ Pn c w''))
  | .ok (.row row args) w' => Rows P row args w' F
  | .halt (.panic v) w' => Pn [{ v, recovered := false }] w'
  | _ => False
def wpDr (Pn : List PanicEntry → World → Prop) (P : Program) (ops : Array Oper) (eff : Nat → Bool) (anc : Nat → Nat → Bool) (Q : Act → World → Prop) : List Nat → Pend → Act → (World → Prop) → Prop
  | [], _, a, C => ∀ w, C w → Q a w
  | i :: R, pend, a, C => ∃ o, ops[i]? = some o ∧
    (eff i = true → ∀ w, C w → effAt Pn P o a w (fun v w' => ∃ C', C' w' ∧ (∀ p ∈ pend, anc p.1 i = false → p.2 C') ∧ wpDr Pn P ops eff anc Q R pend (a.put o.dst v) C')) ∧
    (eff i = false → ∃ v, qIn P o a C v ∧ wpDr Pn P ops eff anc Q R ((i, fun C' => qIn P o a C' v) :: pend) (a.put o.dst v) C)
theorem effAt_mono {Pn : List PanicEntry → World → Prop} {P : Program} {o : Oper} {a : Act} {w : World} {F G : Value → World → Prop} (h : ∀ v w', F v w' → G v w') (hf : effAt Pn P o a w F) : effAt Pn P o a w G := by
  unfold effAt at *
  generalize (execOp a.eval o).run P w = r at *
  cases r with
  | ok n w' =>
    cases n <;> simp only at hf ⊢ <;> first
      | exact h _ _ hf
      | exact hf.mono fun e w'' hh => hh.imp (fun ⟨v, he, hv⟩ => ⟨v, he, h _ _ hv⟩) id
      | exact hf.mono fun v w'' hv => h _ _ hv
      | exact hf
  | halt x w' => cases x <;> exact hf
theorem effAt_same {Pn : List PanicEntry → World → Prop} {P : Program} {o : Oper} {a b : Act} {w : World} {F : Value → World → Prop} (he : execOp b.eval o = execOp a.eval o) (hf : effAt Pn P o a w F) : effAt Pn P o b w F := by
  unfold effAt at *; rw [he]; exact hf
section dr
variable {Pn : List PanicEntry → World → Prop} {P : Program} {ops : Array Oper} {eff : Nat → Bool} {anc : Nat → Nat → Bool} {Q : Act → World → Prop}
theorem wpDr_pend : ∀ {R : List Nat} {pend pend' : Pend} {a : Act} {C : World → Prop}, (∀ p' ∈ pend', ∃ p ∈ pend, p.1 = p'.1 ∧ ∀ C, p.2 C → p'.2 C) → wpDr Pn P ops eff anc Q R pend a C → wpDr Pn P ops eff anc Q R pend' a C
  | [], _, _, _, _, _, h => h
  | i :: R, pend, pend', a, C, hp, ⟨o, ho, h1, h2⟩ => by
    refine ⟨o, ho, fun he w hw => ?_, fun he => ?_⟩
    · refine effAt_mono ?_ (h1 he w hw)
      rintro v w' ⟨C', g1, g2, g3⟩
      refine ⟨C', g1, fun p' hp' ha => ?_, wpDr_pend hp g3⟩
      obtain ⟨p, hm, e, k⟩ := hp p' hp'
      exact k _ (g2 p hm (e ▸ ha))
    · obtain ⟨v, g1, g2⟩ := h2 he
      refine ⟨v, g1, wpDr_pend (fun p' hp' => ?_) g2⟩
      rcases (List.mem_cons.1 hp').symm with hp' | hp'
      · obtain ⟨p, hm, e, k⟩ := hp p' hp'
        exact ⟨p, List.mem_cons_of_mem _ hm, e, k⟩
      · exact ⟨p', hp' ▸ List.mem_cons_self, rfl, fun _ h => h⟩
def noSel (o : Oper) : Prop := ∀ cs b, o.op ≠ .select cs b
theorem qIn_put {o o' : Oper} {a : Act} {C : World → Prop} {v u : Value} (hs : noSel o) (h : ∀ d, o'.dst = some d → d ∉ o.looksAt ops) : qIn P o (a.put o'.dst u) C v ↔ qIn P o a C v := by
  unfold qIn; rw [execOp_put (ops := ops) o hs a o'.dst u h]
theorem wpDr_quiet {i : Nat} {oi : Oper} (hoi : ops[i]? = some oi) (hi : eff i = false) (hsi : noSel oi) : ∀ {L1 L2 : List Nat} {pend : Pend} {a : Act} {C : World → Prop},
    (∀ j ∈ L1, eff j = false ∧ ∀ oj, ops[j]? = some oj → noSel oj ∧ oi.apart ops oj = true) → wpDr Pn P ops eff anc Q (L1 ++ i :: L2) pend a C → ∃ v, qIn P oi a C v ∧ wpDr Pn P ops eff anc Q (L1 ++ L2) pend (a.put oi.dst v) C
  | [], L2, pend, a, C, _, ⟨o, ho, _, h2⟩ => by
    rw [hoi] at ho; cases ho
    obtain ⟨v, g1, g2⟩ := h2 hi
    exact ⟨v, g1, wpDr_pend (fun p hp => ⟨p, List.mem_cons_of_mem _ hp, rfl, fun _ h => h⟩) g2⟩
  | j :: L1, L2, pend, a, C, hL, ⟨oj, hoj, _, h2⟩ => by
    obtain ⟨hj, hj2⟩ := hL j (by simp)
    obtain ⟨hsj, hap⟩ := hj2 oj hoj
    obtain ⟨a1, a2, a3⟩ := Oper.apart_spec hap
    obtain ⟨vj, g1, g2⟩ := h2 hj
    obtain ⟨v, k1, k2⟩ := wpDr_quiet hoi hi hsi (fun x hx => hL x (by simp [hx])) g2
    refine ⟨v, (qIn_put (ops := ops) hsi a3).1 k1, oj, hoj, fun he => (by rw [hj] at he; cases he), fun _ => ⟨vj, (qIn_put (ops := ops) hsj a1).2 g1, ?_⟩⟩
    rw [Act.put_comm a v vj a2]
    refine wpDr_pend (fun p hp => ?_) k2
    rcases (List.mem_cons.1 hp).symm with hp | hp
    · exact ⟨p, List.mem_cons_of_mem _ hp, rfl, fun _ h => h⟩
    · rw [hp]
      exact ⟨_, List.mem_cons_self, rfl, fun C' h => (qIn_put (ops := ops) hsj a1).2 h⟩
theorem wpDr_eff {i : Nat} {oi : Oper} (hoi : ops[i]? = some oi) (hi : eff i = true) (hsi : noSel oi) : ∀ {L1 L2 : List Nat} {pend : Pend} {a : Act} {C : World → Prop} {w : World},
    (∀ j ∈ L1, eff j = false ∧ anc j i = false ∧ ∀ oj, ops[j]? = some oj → noSel oj ∧ oi.apart ops oj = true) → C w → wpDr Pn P ops eff anc Q (L1 ++ i :: L2) pend a C →
    effAt Pn P oi a w (fun v w' => ∃ C', C' w' ∧ (∀ p ∈ pend, anc p.1 i = false → p.2 C') ∧ wpDr Pn P ops eff anc Q (L1 ++ L2) pend (a.put oi.dst v) C')
  | [], L2, pend, a, C, w, _, hw, ⟨o, ho, h1, _⟩ => by
    rw [hoi] at ho; cases ho
    exact h1 hi w hw
  | j :: L1, L2, pend, a, C, w, hL, hw, ⟨oj, hoj, _, h2⟩ => by
    obtain ⟨hj, hja, hj2⟩ := hL j (by simp)
    obtain ⟨hsj, hap⟩ := hj2 oj hoj
    obtain ⟨a1, a2, a3⟩ := Oper.apart_spec hap
    obtain ⟨vj, g1, g2⟩ := h2 hj
    have k := wpDr_eff hoi hi hsi (fun x hx => hL x (by simp [hx])) hw g2
    refine effAt_mono ?_ (effAt_same (execOp_put (ops := ops) oi hsi a oj.dst vj a3).symm k)
    rintro v w' ⟨C', c1, c2, c3⟩
    refine ⟨C', c1, fun p hp => c2 p (List.mem_cons_of_mem _ hp), oj, hoj, fun he => (by rw [hj] at he; cases he), fun _ => ⟨vj, ?_, ?_⟩⟩
    · have := c2 _ (List.mem_cons_self) hja
      exact (qIn_put (ops := ops) hsj a1).2 this
    · rw [Act.put_comm a v vj a2]
      refine wpDr_pend (fun p hp => ?_) c3
      rcases (List.mem_cons.1 hp).symm with hp | hp
      · exact ⟨p, List.mem_cons_of_mem _ hp, rfl, fun _ h => h⟩
      · rw [hp]
        exact ⟨_, List.mem_cons_self, rfl, fun C' h => (qIn_put (ops := ops) hsj a1).2 h⟩
theorem wpAny_of_dr {Qx : Exit → Act → World → Prop} (hPn : ∀ c a w, a.defers = [] → Pn c w → Qx (.panic c) a w) (hanc : ∀ (listed : Array Bool), (∀ i, listed.getD i false = true → ∀ e ∈ direct ops i, listed.getD e false = true) → ∀ j i, (∀ e ∈ direct ops i, listed.getD e false = true) → anc j i = true → listed.getD j false = true) (hsel : Region.noSelect ops = true) (hg : ∀ o ∈ ops, o.guard = none)
    (hdir : ∀ i, ∀ e ∈ direct ops i, e < ops.size ∧ e ≠ i) : ∀ (m : Nat) (R : List Nat) (listed : Array Bool) (a : Act) (w : World) (C : World → Prop), R.length = m → listed.size = ops.size → (∀ i, i ∈ R ↔ (i < ops.size ∧ listed.getD i false = false)) → R.Nodup →
    R.Pairwise (fun j i => drRel ops eff anc j i = true) → (∀ i, listed.getD i false = true → ∀ e ∈ direct ops i, listed.getD e false = true) →
    wpDr Pn P ops eff anc (fun a w => Qx .normal a w) R [] a C → C w → a.defers = [] → wpAny P .any ops Qx m listed a w
  | m, R, listed, a, w, C, hlen, hsz, hmem, hnd, hpw, hdc, h, hw, hdf => by
    have hready0 : Region.ready .any ops listed = [] → R = [] := by
      intro hr
      cases R with
      | nil => rfl
      | cons i R =>
        exfalso
        have hi := (hmem i).1 (by simp)
        have hio : ops[i]? = some ops[i] := Array.getElem?_eq_getElem hi.1
        have : i ∈ Region.ready .any ops listed := by
          rw [mem_ready]
          refine ⟨?_, ops[i], hio, fun e he hb => ?_⟩
          · have := hi.2
            rw [Array.getD_eq_getD_getElem?, Array.getElem?_eq_getElem (by omega)] at this ⊢
            simpa using this
          · have hem := mem_direct hio he hb
            cases hl : listed.getD e.on false with
            | true => rfl
            | false =>
              exfalso
              have h1 := hdir i e.on hem
              have h2 : e.on ∈ i :: R := (hmem e.on).2 ⟨h1.1, hl⟩
              rcases List.mem_cons.1 h2 with h2 | h2
              · exact h1.2 h2
              · have h3 := (List.pairwise_cons.1 hpw).1 _ h2
                simp only [drRel, Bool.and_eq_true, Bool.not_eq_true', List.contains_eq_mem, decide_eq_false_iff_not] at h3
                exact h3.1 hem
        rw [hr] at this; cases this
    have hQ : Region.ready .any ops listed = [] → Qx .normal a w := by
      intro hr
      have := hready0 hr
      subst this
      exact h w hw
    cases m with
    | zero =>
      have : R = [] := List.length_eq_zero_iff.1 hlen
      subst this
      have hr : Region.ready .any ops listed = [] := by
        cases hr : Region.ready .any ops listed with
        | nil => rfl
        | cons i r =>
          have hi : i ∈ Region.ready .any ops listed := by rw [hr]; simp
          obtain ⟨h1, o, ho, _⟩ := mem_ready.1 hi
          have hlt := (Array.getElem?_eq_some_iff.1 ho).1
          have := (hmem i).2 ⟨hlt, by
            rw [Array.getD_eq_getD_getElem?, Array.getElem?_eq_getElem (by omega)] at h1 ⊢
            simpa using h1⟩
          cases this
      exact ⟨hr, hQ hr⟩
    | succ m =>
      refine ⟨hQ, fun i hi => ?_⟩
      obtain ⟨h1, oi, ho, hall⟩ := mem_ready.1 hi
      have hlt := (Array.getElem?_eq_some_iff.1 ho).1
      have hlf : listed.getD i false = false := by
        rw [Array.getD_eq_getD_getElem?, Array.getElem?_eq_getElem (by omega)] at h1 ⊢
        simpa using h1
      have hdl : ∀ e ∈ direct ops i, listed.getD e false = true := fun e he => by
        obtain ⟨o', ed, g1, g2, g3, g4⟩ := direct_mem he
        rw [ho] at g1; cases g1
        rw [← g4]; exact hall ed g2 g3
      obtain ⟨L1, L2, rfl⟩ := List.append_of_mem ((hmem i).2 ⟨hlt, hlf⟩)
      have hL1 : ∀ j ∈ L1, eff j = false ∧ anc j i = false ∧ ∀ oj, ops[j]? = some oj → noSel oj ∧ oi.apart ops oj = true := by
        intro j hj
        have hju := ((hmem j).1 (List.mem_append_left _ hj)).2
        have hanc : anc j i = false := by
          cases hb : anc j i with
          | false => rfl
          | true => rw [hanc listed hdc j i hdl hb] at hju; cases hju
        have hr := (List.pairwise_append.1 hpw).2.2 j hj i (by simp)
        simp only [drRel, hanc, Bool.false_or, Bool.and_eq_true, Bool.not_eq_true'] at hr
        obtain ⟨_, he, hap⟩ := hr
        refine ⟨he, hanc, fun oj hoj => ⟨fun cs b => Region.noSelect_spec hsel j oj cs b hoj, ?_⟩⟩
        rw [ho, hoj] at hap; exact hap
      have hsi : noSel oi := fun cs b => Region.noSelect_spec hsel i oi cs b ho
      have hwant : ∀ l, Region.wanted oi l = true := fun l => by
        have := hg oi (Array.mem_of_getElem? ho)
        simp [Region.wanted, this]
      have key : ∀ (a' : Act) (w' : World) (C' : World → Prop), a'.defers = [] → C' w' → wpDr Pn P ops eff anc (fun a w => Qx .normal a w) (L1 ++ L2) [] a' C' → wpAny P .any ops Qx m (listed.setIfInBounds i true) a' w' := by
        intro a' w' C' hdf' hw' h'
        have hgd : ∀ j, (listed.setIfInBounds i true).getD j false = if i = j then true else listed.getD j false := by
          intro j
          rw [Array.getD_eq_getD_getElem?, Array.getElem?_setIfInBounds, Array.getD_eq_getD_getElem?]
          split
          · rename_i e; subst e; simp [hsz, hlt]
          · rfl
        have hnd' := hnd
        rw [List.nodup_append] at hnd'
        refine wpAny_of_dr hPn hanc hsel hg hdir m (L1 ++ L2) _ a' w' C' (by simp at hlen ⊢; omega) (by simp [hsz]) (fun j => ?_) ?_ ?_ (fun j hj e he => ?_) h' hw' hdf'
        · rw [hgd]
          have := hmem j
          constructor
          · intro hj
            have hne : ¬ i = j := by
              rintro rfl
              rcases List.mem_append.1 hj with hj | hj
              · exact (hnd'.2.2 i hj i (by simp)) rfl
              · exact (List.nodup_cons.1 hnd'.2.1).1 hj
            rw [if_neg hne]
            exact this.1 (by rcases List.mem_append.1 hj with hj | hj <;> simp [hj])
          · rintro ⟨g1, g2⟩
            by_cases hne : i = j
            · rw [if_pos hne] at g2; cases g2
            · rw [if_neg hne] at g2
              have := this.2 ⟨g1, g2⟩
              rcases List.mem_append.1 this with hj | hj
              · simp [hj]
              · rcases List.mem_cons.1 hj with hj | hj
                · exact absurd hj.symm hne
                · simp [hj]
        · exact hnd.sublist (List.Sublist.append (List.Sublist.refl _) (List.sublist_cons_self _ _))
        · exact hpw.sublist (List.Sublist.append (List.Sublist.refl _) (List.sublist_cons_self _ _))
        · rw [hgd] at hj ⊢
          split
          · rfl
          · split at hj
            · rename_i e'; subst e'; exact hdl e he
            · exact hdc j hj e he
      unfold wpOp
      rw [ho]
      simp only [hwant, if_true]
      left
      cases he : eff i with
      | false =>
        obtain ⟨v, g1, g2⟩ := wpDr_quiet ho he hsi (fun j hj => ⟨(hL1 j hj).1, (hL1 j hj).2.2⟩) h
        unfold Oper.wp
        rw [g1 w hw, Oper.upon_value]
        exact key _ _ _ (put_defers hdf) hw g2
      | true =>
        have g := wpDr_eff ho he hsi hL1 hw h
        unfold effAt at g
        unfold Oper.wp
        generalize (execOp a.eval oi).run P w = r at *
        cases r with
        | ok n w' =>
          cases n <;> simp only at g
          case value v =>
            obtain ⟨C', c1, _, c3⟩ := g
            exact key _ _ _ (put_defers hdf) c1 c3
          case skip =>
            obtain ⟨C', c1, _, c3⟩ := g
            exact key _ _ _ (put_defers hdf) c1 c3
          case enter f args =>
            rw [Oper.upon_enter]
            refine g.mono fun e w'' hh => ?_
            rcases hh with ⟨v, hev, C', c1, _, c3⟩ | ⟨c, hev, hp⟩
            · subst hev
              exact key _ _ _ (put_defers hdf) c1 c3
            · subst hev
              exact hPn _ _ _ hdf hp
          case row row args =>
            rw [Oper.upon_row]
            exact g.mono fun v w'' ⟨C', c1, _, c3⟩ => key _ _ _ (put_defers hdf) c1 c3
        | halt x w' =>
          cases x <;> simp only at g
          case panic v => rw [Oper.upon_panic]; exact hPn _ _ _ hdf g
theorem wp_region_dr {id : Nat} {tbl : List (List Nat)} {Qx : Exit → Act → World → Prop} {a : Act} {w : World} {σ : List Nat} {C : World → Prop} (hPn : ∀ c a w, a.defers = [] → Pn c w → Qx (.panic c) a w) (hdf : a.defers = []) (hm : P.follows .mixedOrders = true) (hB : (drawB ops eff (ancT tbl) σ && tabB ops tbl σ) = true) (hC : C { w with drawn := w.drawn + 1 })
    (h : wpDr Pn P ops eff (ancT tbl) (fun a w => Qx .normal a w) σ [] a C) : (Code.region id ops true).wp P Qx a w := by
  rw [Bool.and_eq_true] at hB
  obtain ⟨hB, hT⟩ := hB
  simp only [drawB, Bool.and_eq_true, List.all_eq_true, List.mem_range, Bool.not_eq_true', Nat.blt_eq] at hB
  obtain ⟨⟨⟨⟨⟨⟨⟨h1, h2⟩, h3⟩, h4⟩, h5⟩, h6⟩, h7⟩, h8⟩ := hB
  have hlen : σ.length = ops.size := Nat.eq_of_beq_eq_true h4
  have hg0 : ∀ i, (Array.replicate ops.size false).getD i false = false := fun i => by
    rw [Array.getD_eq_getD_getElem?, Array.getElem?_replicate]; split <;> rfl
  refine wp_region_any hm ?_
  have := wpAny_of_dr (Pn := Pn) (P := P) (ops := ops) (eff := eff) (anc := ancT tbl) (Qx := Qx) hPn (fun listed hd => ancT_listed hT hd) h1 (fun o ho => ?_) (fun i e he => ?_) ops.size σ (Array.replicate ops.size false) a _ C hlen (by simp) (fun i => ?_) ?_ (pairsB_spec h8) (fun i hi => by rw [hg0] at hi; cases hi) h hC hdf
  · exact this
  · have := Array.all_eq_true_iff_forall_mem.1 h2 o ho
    simpa using this
  · have hi : i < ops.size := by
      obtain ⟨o, _, ho, _⟩ := direct_mem he
      exact (Array.getElem?_eq_some_iff.1 ho).1
    have := h7 i hi e he
    refine ⟨this.1, fun e' => ?_⟩
    have h9 := this.2
    rw [e'] at h9; simp at h9
  · rw [hg0]
    constructor
    · intro hi; exact ⟨h5 i hi, rfl⟩
    · intro hi
      have := h3 i hi.1
      simpa using this
  · have := pairsB_spec h6
    refine List.Pairwise.imp ?_ this
    intro x y hxy e
    subst e; simp at hxy
end dr
def Wd (Pn : List PanicEntry → World → Prop) (P : Program) (ops : Array Oper) (eff : Nat → Bool) (anc : Nat → Nat → Bool) (Qx : Exit → Act → World → Prop) (n : Nat) (l : List (Nat × Value)) (R : List Nat) (pend : Pend) (C : World → Prop) : Prop :=
  ∀ a, Fr n l a → wpDr Pn P ops eff anc (fun a w => Qx .normal a w) R pend a C
def DQ (Pn : List PanicEntry → World → Prop) (P : Program) (ops : Array Oper) (eff : Nat → Bool) (anc : Nat → Nat → Bool) (Qx : Exit → Act → World → Prop) (i : Nat) (R : List Nat) (pend : Pend) : Exit → Act → World → Prop := fun e a' w' =>
  (∃ c, e = .panic c ∧ Pn c w') ∨ (e = .normal ∧ a'.defers = [] ∧ ∃ C', C' w' ∧ (∀ p ∈ pend, anc p.1 i = false → p.2 C') ∧ wpDr Pn P ops eff anc (fun a w => Qx .normal a w) R pend a' C')
section
variable {Pn : List PanicEntry → World → Prop} {P : Program} {ops : Array Oper} {eff : Nat → Bool} {anc : Nat → Nat → Bool} {Qx : Exit → Act → World → Prop} {n : Nat} {l : List (Nat × Value)} {R : List Nat} {pend : Pend} {C : World → Prop} {w : World}
theorem WC.drawn {id : Nat} (tbl : List (List Nat)) {ol : List Oper} {σ : List Nat} (effs : List Nat) (hPn : ∀ c a w, a.defers = [] → Pn c w → Qx (.panic c) a w) (hm : P.follows .mixedOrders = true) (hB : (drawB ol.toArray (fun i => effs.contains i) (ancT tbl) σ && tabB ol.toArray tbl σ) = true) (hC : C { w with drawn := w.drawn + 1 })
    (h : Wd Pn P ol.toArray (fun i => effs.contains i) (ancT tbl) Qx n l σ [] C) : WC P Qx n l (.region id ol.toArray true) w := fun a ha => wp_region_dr hPn ha.defers hm hB hC (h a ha)
theorem Wd.nil (h : ∀ w, C w → WQ Qx .normal n l w) : Wd Pn P ops eff anc Qx n l [] pend C := fun a ha w hw => h w hw a ha
theorem Wd.sub {m : List (Nat × Value)} (hs : Vc.sub l m) (h : Wd Pn P ops eff anc Qx n m R pend C) : Wd Pn P ops eff anc Qx n l R pend C := fun a ha => h a (ha.of_sub hs)
theorem Wd.step {i d : Nat} {o : Oper} {v : Value} (ho : ops[i]? = some o) (he : eff i = false) (hd : o.dst = some d) (hdn : Nat.blt d n = true) (hx : Exv P n l C o v)
    (k : ∀ p : (World → Prop) → Prop, (∀ C', Exv P n l C' o v → p C') → Wd Pn P ops eff anc Qx n ((d, v) :: l) R ((i, p) :: pend) C) : Wd Pn P ops eff anc Qx n l (i :: R) pend C := fun a ha =>
  ⟨o, ho, fun h => (by rw [he] at h; cases h), fun _ => ⟨v, fun w hw => hx w hw a ha, by
    have := k (fun C' => qIn P o a C' v) (fun C' h w hw => h w hw a ha) (a.put (some d) v) (ha.put hdn v)
    rw [hd]; exact this⟩⟩
theorem Wd.run {i d : Nat} {o : Oper} {v : Value} (ho : ops[i]? = some o) (he : eff i = false) (hd : o.dst = some d) (hdn : Nat.blt d n = true) (hx : ∀ C, Exv P n l C o v)
    (k : ∀ p : (World → Prop) → Prop, (∀ C', p C') → Wd Pn P ops eff anc Qx n ((d, v) :: l) R ((i, p) :: pend) C) : Wd Pn P ops eff anc Qx n l (i :: R) pend C :=
  Wd.step ho he hd hdn (hx C) fun p hp => k p fun C' => hp C' (hx C')
theorem Wd.runx {D : Value → Prop} {i d : Nat} {o : Oper} (ho : ops[i]? = some o) (he : eff i = false) (hd : o.dst = some d) (hdn : Nat.blt d n = true) (hx : ∃ v, D v ∧ ∀ C, Exv P n l C o v)
    (k : ∀ v, D v → ∀ p : (World → Prop) → Prop, (∀ C', p C') → Wd Pn P ops eff anc Qx n ((d, v) :: l) R ((i, p) :: pend) C) : Wd Pn P ops eff anc Qx n l (i :: R) pend C :=
  let ⟨v, hv, h⟩ := hx; Wd.run ho he hd hdn h (k v hv)
theorem Wd.runs {w0 : World} {H : View} {fp L : Seg} {D : Value → Prop} {i d : Nat} {o : Oper} (ho : ops[i]? = some o) (he : eff i = false) (hd : o.dst = some d) (hdn : Nat.blt d n = true)
    (hx : ∃ v, D v ∧ ∀ K L, View.le H K → Exv P n l (St w0 K (fp ++ L)) o v) (hC : ∀ w, C w → St w0 H (fp ++ L) w)
    (k : ∀ v, D v → ∀ p : (World → Prop) → Prop, (∀ K L C', View.le H K → (∀ w, C' w → St w0 K (fp ++ L) w) → p C') → Wd Pn P ops eff anc Qx n ((d, v) :: l) R ((i, p) :: pend) C) : Wd Pn P ops eff anc Qx n l (i :: R) pend C :=
  let ⟨v, hv, h⟩ := hx
  Wd.step ho he hd hdn ((h H L (View.le.refl _)).of hC) fun p hp => k v hv p fun K L C' hle hc => hp C' ((h K L hle).of hc)
theorem Wd.runb {w0 : World} {H : View} {L : Seg} {b off : Nat} {arr : Array Value} {T : TypeId} {u : Value} {i d : Nat} {o : Oper} (ho : ops[i]? = some o) (he : eff i = false) (hd : o.dst = some d) (hdn : Nat.blt d n = true)
    (hx : ∀ (K : View) (L : Seg) (arr' : Array Value), arr'[off]? = some u → Exv P n l (St w0 K ([(b, .cells arr' T (0, 0))] ++ L)) o u) (hu : arr[off]? = some u) (hC : ∀ w, C w → St w0 H ([(b, .cells arr T (0, 0))] ++ L) w)
    (k : ∀ p : (World → Prop) → Prop, (∀ (K : View) (L : Seg) (arr' : Array Value) (C' : World → Prop), arr'[off]? = some u → (∀ w, C' w → St w0 K ([(b, .cells arr' T (0, 0))] ++ L) w) → p C') → Wd Pn P ops eff anc Qx n ((d, u) :: l) R ((i, p) :: pend) C) : Wd Pn P ops eff anc Qx n l (i :: R) pend C :=
  Wd.step ho he hd hdn ((hx H L arr hu).of hC) fun p hp => k p fun K L arr' C' h1 hc => hp C' ((hx K L arr' h1).of hc)
theorem dq_normal {i : Nat} {a : Act} (h : DQ Pn P ops eff anc Qx i R pend .normal a w) : a.defers = [] ∧ ∃ C', C' w ∧ (∀ p ∈ pend, anc p.1 i = false → p.2 C') ∧ wpDr Pn P ops eff anc (fun a w => Qx .normal a w) R pend a C' := by
  rcases h with ⟨c, h, _⟩ | ⟨_, h⟩
  · cases h
  · exact h
theorem dq_panic {i : Nat} {a : Act} {c : List PanicEntry} (h : DQ Pn P ops eff anc Qx i R pend (.panic c) a w) : Pn c w := by
  rcases h with ⟨c, h, hp⟩ | ⟨h, _⟩
  · cases h; exact hp
  · cases h
theorem dq_out {i : Nat} {a : Act} (h : DQ Pn P ops eff anc Qx i R pend .outgrown a w) : False := by
  rcases h with ⟨c, h, _⟩ | ⟨h, _⟩ <;> cases h
theorem DQ.pan {i : Nat} {c : List PanicEntry} (h : Pn c w) : WQ (DQ Pn P ops eff anc Qx i R pend) (.panic c) n l w := fun a ha => .inl ⟨c, rfl, h⟩
theorem Wd.turn {i : Nat} {o : Oper} (ho : ops[i]? = some o) (he : eff i = true) (hg : o.guard = none) (h : ∀ w, C w → WL P ops (DQ Pn P ops eff anc Qx i R pend) n l [o] w) : Wd Pn P ops eff anc Qx n l (i :: R) pend C := fun a ha => by
  refine ⟨o, ho, fun _ w hw => ?_, fun h => (by rw [he] at h; cases h)⟩
  have h1 := h w hw a ha
  unfold wpList at h1
  rw [if_pos (by simp [Region.wanted, hg])] at h1
  rcases h1 with h2 | ⟨_, a', w', h2⟩
  · replace h2 : o.wp P a w (fun a' w' => DQ Pn P ops eff anc Qx i R pend .normal a' w') (DQ Pn P ops eff anc Qx i R pend) := h2
    unfold Oper.wp at h2
    unfold effAt
    generalize (execOp a.eval o).run P w = r at *
    cases r with
    | ok nx w' =>
      cases nx <;> simp only [Oper.upon] at h2 ⊢
      case value v => exact (dq_normal h2).2
      case skip => exact (dq_normal h2).2
      case defer d =>
        have := (dq_normal h2).1
        generalize o.dst = od at this
        cases od <;> simp [Act.put] at this
      case enter f args =>
        refine h2.mono fun e w'' hq => ?_
        cases e with
        | returned v => exact .inl ⟨v, rfl, (dq_normal hq).2⟩
        | panicked c => exact .inr ⟨c, rfl, dq_panic hq⟩
        | outgrown =>
          obtain ⟨_, _, h3⟩ := hq
          exact (dq_out h3).elim
      case row row args => exact h2.mono fun v w'' hq => (dq_normal hq).2
    | halt x w' =>
      cases x <;> simp only [Oper.upon] at h2 ⊢
      all_goals first | exact h2.elim | exact dq_panic h2
  · exact (dq_out h2).elim
theorem DQ.mk {i : Nat} {C' : World → Prop} (hC : C' w) (hp : ∀ p ∈ pend, anc p.1 i = false → p.2 C') (h : Wd Pn P ops eff anc Qx n l R pend C') : WQ (DQ Pn P ops eff anc Qx i R pend) .normal n l w := fun a ha => .inr ⟨rfl, ha.defers, C', hC, hp, h a ha⟩
def PendB (anc : Nat → Nat → Bool) (i : Nat) (C' : World → Prop) : Pend → Prop
  | [] => True
  | p :: l => (anc p.1 i = true ∨ p.2 C') ∧ PendB anc i C' l
theorem PendB.all {anc : Nat → Nat → Bool} {i : Nat} {C' : World → Prop} : ∀ {pend : Pend}, PendB anc i C' pend → ∀ p ∈ pend, anc p.1 i = false → p.2 C'
  | p :: l, ⟨h1, h2⟩, q, hq, ha => by
    rcases List.mem_cons.1 hq with rfl | hq
    · rcases h1 with h1 | h1
      · rw [h1] at ha; cases ha
      · exact h1
    · exact PendB.all h2 q hq ha
theorem DQ.mk2 {i : Nat} {C' : World → Prop} (hC : C' w) (hp : PendB anc i C' pend) (h : Wd Pn P ops eff anc Qx n l R pend C') : WQ (DQ Pn P ops eff anc Qx i R pend) .normal n l w := DQ.mk hC hp.all h
end
end DP
end Go.Vc
