/- A region that allocates in any order: one walk serves all orders. -/
import Derived.Test.YtmdoicffgeihcaaGreatDoorUns
set_option linter.unusedVariables false
namespace Go.Vc
open Go
def insAll (x : Nat) : List Nat → List (List Nat)
  | [] => [[x]]
  | y :: ys => (x :: y :: ys) :: (insAll x ys).map (y :: ·)
def perms : List Nat → List (List Nat)
  | [] => [[]]
  | x :: xs => (perms xs).flatMap (insAll x)
theorem insAll_perm {x : Nat} : ∀ {ys τ : List Nat}, τ ∈ insAll x ys → τ.Perm (x :: ys)
  | [], τ, h => by simp only [insAll, List.mem_singleton] at h; rw [h]
  | y :: ys, τ, h => by
    simp only [insAll, List.mem_cons, List.mem_map] at h
    rcases h with rfl | ⟨τ', h, rfl⟩
    · exact List.Perm.refl _
    · exact ((insAll_perm h).cons y).trans (List.Perm.swap x y ys)
theorem perms_perm : ∀ {xs τ : List Nat}, τ ∈ perms xs → τ.Perm xs
  | [], τ, h => by simp only [perms, List.mem_singleton] at h; rw [h]
  | x :: xs, τ, h => by
    simp only [perms, List.mem_flatMap] at h
    obtain ⟨τ', h1, h2⟩ := h
    exact (insAll_perm h2).trans ((perms_perm h1).cons x)
theorem perm_map_inv {α β : Type} {f : α → β} {τ m : List β} (h : τ.Perm m) : ∀ {l : List α}, m = l.map f → ∃ l' : List α, l'.Perm l ∧ τ = l'.map f := by
  induction h with
  | nil =>
    intro l e
    cases l with
    | nil => exact ⟨[], List.Perm.refl _, rfl⟩
    | cons a l => cases e
  | cons x h ih =>
    intro l e
    cases l with
    | nil => cases e
    | cons a l =>
      cases e
      obtain ⟨l', h1, h2⟩ := ih rfl
      exact ⟨a :: l', h1.cons a, by rw [h2]; rfl⟩
  | swap x y k =>
    intro l e
    cases l with
    | nil => cases e
    | cons a l =>
      cases l with
      | nil => cases e
      | cons b l => cases e; exact ⟨b :: a :: l, List.Perm.swap a b l, rfl⟩
  | trans h1 h2 ih1 ih2 =>
    intro l e
    obtain ⟨l', g1, g2⟩ := ih2 e
    obtain ⟨l'', g3, g4⟩ := ih1 g2
    exact ⟨l'', g3.trans g1, g4⟩
section
variable {P : Program} {ops : Array Oper} {eff : Nat → Bool} {anc : Nat → Nat → Bool} {Qx : Exit → Act → World → Prop} {n : Nat}
theorem wpDr_cls {Q : Act → World → Prop} : ∀ {R : List Nat} {pend : Pend} {a : Act} {C D : World → Prop}, (∀ w, D w → C w) → wpDr P ops eff anc Q R pend a C → wpDr P ops eff anc Q R pend a D
  | [], _, _, _, _, h, hw => fun w hd => hw w (h w hd)
  | i :: R, pend, a, C, D, h, ⟨o, ho, h1, h2⟩ => ⟨o, ho, fun he w hd => h1 he w (h w hd), fun he => by
    obtain ⟨v, g1, g2⟩ := h2 he
    exact ⟨v, fun w hd => g1 w (h w hd), wpDr_cls h g2⟩⟩
theorem Wd.cls {l : List (Nat × Value)} {R : List Nat} {pend : Pend} {C D : World → Prop} (h : ∀ w, D w → C w) (k : Wd P ops eff anc Qx n l R pend C) : Wd P ops eff anc Qx n l R pend D := fun a ha => wpDr_cls h (k a ha)
theorem WC.drawna {l : List (Nat × Value)} {C : World → Prop} {w : World} {id : Nat} (tbl : List (List Nat)) {ol : List Oper} (effs pre al post : List Nat) (hm : P.follows .mixedOrders = true)
    (hB : (drawsB ol.toArray (fun i => effs.contains i) (ancT tbl) ((perms al).map fun τ => pre ++ (τ ++ post)) && tabB ol.toArray tbl (((perms al).map fun τ => pre ++ (τ ++ post)).headD [])) = true) (hC : C { w with drawn := w.drawn + 1 })
    (h : ∀ τ, τ.Perm al → Wd P ol.toArray (fun i => effs.contains i) (ancT tbl) Qx n l (pre ++ (τ ++ post)) [] C) : WC P Qx n l (.region id ol.toArray true) w := by
  refine WC.drawns tbl effs _ hm hB hC ?_
  have : ∀ (σs : List (List Nat)), (∀ σ ∈ σs, Wd P ol.toArray (fun i => effs.contains i) (ancT tbl) Qx n l σ [] C) → Wds P ol.toArray (fun i => effs.contains i) (ancT tbl) Qx n l C σs := by
    intro σs
    induction σs with
    | nil => intro _; trivial
    | cons σ σs ih => intro h; exact ⟨h σ (by simp), ih fun τ hτ => h τ (List.mem_cons_of_mem _ hτ)⟩
  refine this _ fun σ hσ => ?_
  obtain ⟨τ, h1, rfl⟩ := List.mem_map.1 hσ
  exact h τ (perms_perm h1)
/-- One allocation: which operation, where its value goes, what is known of it. -/
structure AlSp where
  i : Nat
  d : Nat
  F : Value → Seg → Prop
def allP : Pend → Prop
  | [] => True
  | p :: r => (∀ C', p.2 C') ∧ allP r
theorem allP_mem : ∀ {r : Pend}, allP r → ∀ p ∈ r, ∀ C', p.2 C'
  | _ :: _, ⟨h1, h2⟩, p, hp, C' => by
    rcases List.mem_cons.1 hp with rfl | hp
    · exact h1 C'
    · exact allP_mem h2 p hp C'
def AlOK (P : Program) (ops : Array Oper) (eff : Nat → Bool) (n : Nat) (l0 : List (Nat × Value)) (w0 : World) (H : View) (s : AlSp) : Prop :=
  ∃ o, ops[s.i]? = some o ∧ eff s.i = true ∧ o.guard = none ∧ o.dst = some s.d ∧ Nat.blt s.d n = true ∧ (l0.all fun p => !Nat.beq p.1 s.d) = true ∧
    ∀ (L : Seg) (w : World), St w0 H L w → ∀ (Q' : Exit → Act → World → Prop), (∀ v fp w', s.F v fp → St w0 H (fp ++ L) w' → WL P ops Q' n ((s.d, v) :: l0) [] w') → WL P ops Q' n l0 [o] w
def AllOK (P : Program) (ops : Array Oper) (eff : Nat → Bool) (n : Nat) (l0 : List (Nat × Value)) (w0 : World) (H : View) : List AlSp → Prop
  | [] => True
  | s :: S => AlOK P ops eff n l0 w0 H s ∧ AllOK P ops eff n l0 w0 H S
theorem AllOK.mem {l0 : List (Nat × Value)} {w0 : World} {H : View} : ∀ {S : List AlSp}, AllOK P ops eff n l0 w0 H S → ∀ s ∈ S, AlOK P ops eff n l0 w0 H s
  | _ :: _, ⟨h1, h2⟩, s, hs => by
    rcases List.mem_cons.1 hs with rfl | hs
    · exact h1
    · exact h2.mem s hs
theorem lk_none_of {l0 : List (Nat × Value)} {d : Nat} (h : (l0.all fun p => !Nat.beq p.1 d) = true) : lk l0 d = none := by
  induction l0 with
  | nil => rfl
  | cons p l ih =>
    simp only [List.all_cons, Bool.and_eq_true, Bool.not_eq_true'] at h
    show (bif Nat.beq p.1 d then some p.2 else lk l d) = none
    rw [h.1]; exact ih h.2
theorem Fr.put_other {l0 : List (Nat × Value)} {a : Act} {d : Nat} {v : Value} (h : Fr n l0 a) (hd : lk l0 d = none) : Fr n l0 (a.put (some d) v) := by
  refine ⟨h.defers, by simp [Act.put, h.size], fun s u hs => ?_⟩
  have hne : d ≠ s := fun e => by subst e; rw [hd] at hs; cases hs
  simp only [Act.put]
  rw [Array.getElem?_setIfInBounds_ne hne]
  exact h.val s u hs
/-- What an allocation does, out of its rule. -/
theorem AlOK.effs {l0 : List (Nat × Value)} {w0 : World} {H : View} {s : AlSp} (hs : AlOK P ops eff n l0 w0 H s) :
    ∃ o, ops[s.i]? = some o ∧ eff s.i = true ∧ o.dst = some s.d ∧ Nat.blt s.d n = true ∧ lk l0 s.d = none ∧
      ∀ (L : Seg) (w : World) (a : Act), Fr n l0 a → St w0 H L w → effAt P o a w (fun v w' => ∃ fp, s.F v fp ∧ St w0 H (fp ++ L) w') := by
  obtain ⟨o, h1, h2, h3, h4, h5, h6, h7⟩ := hs
  refine ⟨o, h1, h2, h4, h5, lk_none_of h6, fun L w a ha hw => ?_⟩
  have h1' := h7 L w hw (fun e a' w' => e = .normal ∧ a'.defers = [] ∧ ∃ v fp, s.F v fp ∧ St w0 H (fp ++ L) w' ∧ a'.tmps[s.d]? = some v)
    (fun v fp w' hF hS => WL.nil fun a' ha' => ⟨rfl, ha'.defers, v, fp, hF, hS, ha'.val _ _ (by rw [lk_cons, if_pos rfl])⟩) a ha
  unfold wpList at h1'
  rw [if_pos (by simp [Region.wanted, h3])] at h1'
  have hput : ∀ v, (a.put o.dst v).tmps[s.d]? = some v := fun v => by
    have hd' : s.d < n := by simpa [Nat.blt_eq] using h5
    rw [h4]; simp only [Act.put]; rw [Array.getElem?_setIfInBounds]; simp [ha.size, hd']
  have fin : ∀ {v w'}, (∃ u fp, s.F u fp ∧ St w0 H (fp ++ L) w' ∧ (a.put o.dst v).tmps[s.d]? = some u) → ∃ fp, s.F v fp ∧ St w0 H (fp ++ L) w' := by
    rintro v w' ⟨u, fp, g1, g2, g3⟩
    rw [hput] at g3; cases g3; exact ⟨fp, g1, g2⟩
  rcases h1' with h2' | ⟨_, a', w', h2'⟩
  · replace h2' : o.wp P a w (fun a' w' => (Exit.normal : Exit) = .normal ∧ a'.defers = [] ∧ ∃ v fp, s.F v fp ∧ St w0 H (fp ++ L) w' ∧ a'.tmps[s.d]? = some v) (fun e a' w' => e = .normal ∧ a'.defers = [] ∧ ∃ v fp, s.F v fp ∧ St w0 H (fp ++ L) w' ∧ a'.tmps[s.d]? = some v) := h2'
    unfold Oper.wp at h2'
    unfold effAt
    generalize (execOp a.eval o).run P w = r at *
    cases r with
    | ok nx w' =>
      cases nx <;> simp only [Oper.upon] at h2' ⊢
      case value v => exact fin h2'.2.2
      case skip => exact fin h2'.2.2
      case defer d =>
        have := h2'.2.1
        generalize o.dst = od at this
        cases od <;> simp [Act.put] at this
      case enter f args =>
        refine h2'.mono fun e w'' hq => ?_
        cases e with
        | returned v => exact ⟨v, rfl, fin hq.2.2⟩
        | panicked c => exact absurd hq.1 (by simp)
        | outgrown =>
          obtain ⟨_, _, h3⟩ := hq
          exact absurd h3.1 (by simp)
      case row row args => exact h2'.mono fun v w'' hq => fin hq.2.2
    | halt x w' =>
      cases x <;> simp only [Oper.upon] at h2'
      all_goals first | exact h2'.elim | exact absurd h2'.1 (by simp)
  · exact absurd h2'.1 (by simp)
/-- What is done: which allocation, what it gave. -/
abbrev Dn := List (AlSp × Value × Seg)
def dfr (D : Dn) (l0 : List (Nat × Value)) : List (Nat × Value) := D.map (fun x => (x.1.d, x.2.1)) ++ l0
def dsg (D : Dn) (L : Seg) : Seg := D.foldr (fun x L => x.2.2 ++ L) L
theorem allocs_go {l0 : List (Nat × Value)} {w0 : World} {H : View} {L : Seg} {pend : Pend} {post : List Nat} (hp : allP pend) : ∀ (S : List AlSp) (D : Dn), (∀ s ∈ S, AlOK P ops eff n l0 w0 H s) →
    (∀ D' : Dn, (D'.map (·.1)).Perm (S ++ D.map (·.1)) → (∀ x ∈ D', x ∈ D ∨ x.1.F x.2.1 x.2.2) → Wd P ops eff anc Qx n (dfr D' l0) post pend (St w0 H (dsg D' L))) →
    ∀ a, Fr n l0 a → Fr n (dfr D l0) a → wpDr P ops eff anc (fun a w => Qx .normal a w) (S.map (·.i) ++ post) pend a (St w0 H (dsg D L))
  | [], D, _, hk, a, _, ha => hk D (List.Perm.refl _) (fun x hx => .inl hx) a ha
  | s :: S, D, hS, hk, a, ha0, ha => by
    obtain ⟨o, h1, h2, h3, h4, h5, h6⟩ := AlOK.effs (hS s (by simp))
    refine ⟨o, h1, fun _ w hw => ?_, fun h => by rw [h2] at h; cases h⟩
    refine effAt_mono ?_ (h6 _ w a ha0 hw)
    rintro v w' ⟨fp, hF, hst⟩
    refine ⟨St w0 H (dsg ((s, v, fp) :: D) L), hst, fun p hpm _ => allP_mem hp p hpm _, ?_⟩
    rw [h3]
    refine allocs_go hp S ((s, v, fp) :: D) (fun x hx => hS x (List.mem_cons_of_mem _ hx)) (fun D' h7 h8 => hk D' (h7.trans List.perm_middle) fun x hx => ?_) _ (ha0.put_other h5) (ha.put h4 v)
    rcases h8 x hx with h | h
    · rcases List.mem_cons.1 h with rfl | h
      · exact .inr hF
      · exact .inl h
    · exact .inr h
theorem lk_dfr {l0 : List (Nat × Value)} : ∀ {D : Dn} {x : AlSp × Value × Seg}, (D.map (·.1.d)).Nodup → x ∈ D → lk (dfr D l0) x.1.d = some x.2.1
  | y :: D, x, hn, hx => by
    rw [List.map_cons, List.nodup_cons] at hn
    show lk ((y.1.d, y.2.1) :: dfr D l0) x.1.d = _
    rw [lk_cons]
    rcases List.mem_cons.1 hx with rfl | hx
    · rw [if_pos rfl]
    · rw [if_neg (fun e => hn.1 (by rw [e]; exact List.mem_map_of_mem (f := fun x : AlSp × Value × Seg => x.1.d) hx)), lk_dfr hn.2 hx]
theorem lk_dfr0 {l0 : List (Nat × Value)} {d : Nat} : ∀ {D : Dn}, (∀ x ∈ D, x.1.d ≠ d) → lk (dfr D l0) d = lk l0 d
  | [], _ => rfl
  | y :: D, h => by
    show lk ((y.1.d, y.2.1) :: dfr D l0) d = _
    rw [lk_cons, if_neg (h y (by simp)), lk_dfr0 fun x hx => h x (List.mem_cons_of_mem _ hx)]
theorem dsg_perm {L : Seg} {D E : Dn} (h : List.Perm D E) : List.Perm (dsg D L) (dsg E L) := by
  induction h with
  | nil => exact List.Perm.refl _
  | cons x _ ih => exact List.Perm.append_left _ ih
  | swap x y k =>
    show (y.2.2 ++ (x.2.2 ++ dsg k L)).Perm (x.2.2 ++ (y.2.2 ++ dsg k L))
    rw [← List.append_assoc, ← List.append_assoc]; exact List.Perm.append_right _ List.perm_append_comm
  | trans _ _ ih1 ih2 => exact ih1.trans ih2
def nodupB : List Nat → Bool
  | [] => true
  | x :: xs => !xs.contains x && nodupB xs
theorem nodupB_spec : ∀ {xs : List Nat}, nodupB xs = true → xs.Nodup
  | [], _ => List.nodup_nil
  | x :: xs, h => by
    simp only [nodupB, Bool.and_eq_true, Bool.not_eq_true'] at h
    exact List.nodup_cons.2 ⟨fun hx => (by have := h.1; rw [List.contains_iff_mem.2 hx] at this; cases this), nodupB_spec h.2⟩
/-- What each gave, by its operation. -/
def gotten (D : Dn) (i : Nat) : Value × Seg := ((D.find? fun x => x.1.i == i).map (·.2)).getD (undef, [])
theorem gotten_eq : ∀ {D : Dn} {x : AlSp × Value × Seg}, (D.map (·.1.i)).Nodup → x ∈ D → gotten D x.1.i = x.2
  | y :: D, x, hn, hx => by
    rw [List.map_cons, List.nodup_cons] at hn
    rcases List.mem_cons.1 hx with rfl | hx
    · simp [gotten]
    · have hne : ¬ y.1.i = x.1.i := fun e => hn.1 (by rw [e]; exact List.mem_map_of_mem (f := fun x : AlSp × Value × Seg => x.1.i) hx)
      have := gotten_eq hn.2 hx
      unfold gotten at this ⊢
      rw [List.find?_cons_of_neg (by simpa using hne)]; exact this
def AllF (g : Nat → Value × Seg) : List AlSp → Prop
  | [] => True
  | s :: S => s.F (g s.i).1 (g s.i).2 ∧ AllF g S
theorem AllF.of {g : Nat → Value × Seg} : ∀ {S : List AlSp}, (∀ s ∈ S, s.F (g s.i).1 (g s.i).2) → AllF g S
  | [], _ => trivial
  | s :: S, h => ⟨h s (by simp), AllF.of fun x hx => h x (List.mem_cons_of_mem _ hx)⟩
theorem sub_of_lk {l m : List (Nat × Value)} : (∀ p ∈ m, lk l p.1 = some p.2) → sub l m := by
  induction m with
  | nil => intro _; trivial
  | cons p m ih => intro h; exact ⟨h p (by simp), ih fun q hq => h q (List.mem_cons_of_mem _ hq)⟩
theorem Wd.allocs {S : List AlSp} {l0 : List (Nat × Value)} {w0 : World} {H : View} {L : Seg} {pend : Pend} {τ post : List Nat} (hp : allP pend) (hτ : τ.Perm (S.map (·.i))) (hS : AllOK P ops eff n l0 w0 H S)
    (hk : ∀ g : Nat → Value × Seg, AllF g S → Wd P ops eff anc Qx n (S.map (fun s => (s.d, (g s.i).1)) ++ l0) post pend (St w0 H ((S.map fun s => (g s.i).2).flatten ++ L)))
    (hi : nodupB (S.map (·.i)) = true := by rfl) (hd : nodupB (S.map (·.d)) = true := by rfl) (hl : nodupB (l0.map (·.1)) = true := by rfl) :
    Wd P ops eff anc Qx n l0 (τ ++ post) pend (St w0 H L) := fun a ha => by
  obtain ⟨S', hp', rfl⟩ := perm_map_inv hτ rfl
  refine allocs_go (L := L) (D := []) hp S' (fun s hs => hS.mem s (hp'.mem_iff.1 hs)) (fun D h1 h2 => ?_) a ha ha
  rw [List.map_nil, List.append_nil] at h1
  have hDS : (D.map (·.1)).Perm S := h1.trans hp'
  have hin : (D.map (·.1.i)).Nodup := by
    have := (hDS.map (·.i)).nodup_iff.2 (nodupB_spec hi); rw [List.map_map] at this; exact this
  have hdn : (D.map (·.1.d)).Nodup := by
    have := (hDS.map (·.d)).nodup_iff.2 (nodupB_spec hd); rw [List.map_map] at this; exact this
  have hmem : ∀ s ∈ S, ∃ x ∈ D, x.1 = s := fun s hs => by
    obtain ⟨x, hx, e⟩ := List.mem_map.1 (hDS.mem_iff.2 hs); exact ⟨x, hx, e⟩
  have hF : ∀ s ∈ S, s.F (gotten D s.i).1 (gotten D s.i).2 := fun s hs => by
    obtain ⟨x, hx, rfl⟩ := hmem s hs
    rw [gotten_eq hin hx]
    rcases h2 x hx with h | h
    · cases h
    · exact h
  have hDE : D.Perm (S.map fun s => (s, gotten D s.i)) := by
    have e : D = (D.map (·.1)).map fun s => (s, gotten D s.i) := by
      rw [List.map_map]
      conv => lhs; rw [← List.map_id D]
      exact List.map_congr_left fun x hx => by show x = (x.1, gotten D x.1.i); rw [gotten_eq hin hx]
    conv => lhs; rw [e]
    exact hDS.map _
  have hseg : ∀ (S : List AlSp) (g : Nat → Value × Seg), dsg (S.map fun s => (s, g s.i)) L = (S.map fun s => (g s.i).2).flatten ++ L := by
    intro S g
    induction S with
    | nil => rfl
    | cons s S ih => show (g s.i).2 ++ dsg (S.map fun s => (s, g s.i)) L = _; rw [ih]; simp [List.append_assoc]
  refine Wd.cls (fun w hw => ?_) (Wd.sub (sub_of_lk fun p hpm => ?_) (hk (gotten D) (AllF.of hF)))
  · have := hw.perm (dsg_perm (L := L) hDE)
    rw [hseg S (gotten D)] at this; exact this
  · rcases List.mem_append.1 hpm with h | h
    · obtain ⟨s, hs, rfl⟩ := List.mem_map.1 h
      obtain ⟨x, hx, rfl⟩ := hmem s hs
      show lk (dfr D l0) x.1.d = some (gotten D x.1.i).1
      rw [gotten_eq hin hx]; exact lk_dfr hdn hx
    · have hne : ∀ x ∈ D, x.1.d ≠ p.1 := fun x hx e => by
        obtain ⟨_, _, _, _, _, _, h6, _⟩ := hS.mem x.1 (hDS.mem_iff.1 (List.mem_map_of_mem hx))
        have := List.all_eq_true.1 h6 p h
        rw [e] at this; simp at this
      rw [lk_dfr0 hne]
      have hl' := nodupB_spec hl
      clear hk hS hpm hne ha
      induction l0 with
      | nil => cases h
      | cons q l ih =>
        rw [List.map_cons, List.nodup_cons] at hl'
        rw [lk_cons]
        rcases List.mem_cons.1 h with rfl | h
        · rw [if_pos rfl]
        · rw [if_neg (fun e => hl'.1 (by rw [e]; exact List.mem_map_of_mem h))]
          exact ih (by simp only [List.map_cons, nodupB, Bool.and_eq_true] at hl; exact hl.2) h hl'.2
end
end Go.Vc
