/- The core of a small verification-condition calculus over the model: frames seen through their live slots, the heap as a persistent view and a list of owned blocks, and one rule for each form of code and each operation. No program in sight. -/
import Derived.WalkKit
import Derived.Deep.Quiet
import Derived.Laws.MakeOwn
import Derived.OwnWalk
namespace Go.Vc
open Go

/-! ### Frames -/
/-- The first pair of a slot. -/
def lk : List (Nat × Value) → Nat → Option Value
  | [], _ => none
  | p :: l, s => bif Nat.beq p.1 s then some p.2 else lk l s

/-- A frame of n slots, seen through some of them. -/
structure Fr (n : Nat) (l : List (Nat × Value)) (a : Act) : Prop where
  defers : a.defers = []
  size : a.tmps.size = n
  val : ∀ s v, lk l s = some v → a.tmps[s]? = some v

def opv (l : List (Nat × Value)) : Operand → Option Value
  | .tmp t => lk l t
  | .const v => some v
  | .global g => some (.pointer (some ⟨g, 0, none⟩))
  | .func f => some (.func (.func f) #[] #[])

theorem Fr.eval {n : Nat} {l : List (Nat × Value)} {a : Act} (h : Fr n l a) {x : Operand} {v : Value} (hx : opv l x = some v) : a.eval x = v := by
  cases x with
  | tmp t =>
    have := h.val t v hx
    simp only [Act.eval, Array.getD_eq_getD_getElem?, this, Option.getD_some]
  | const u => simpa [opv, Act.eval] using hx
  | global g => simpa [opv, Act.eval] using hx
  | func f => simpa [opv, Act.eval] using hx

theorem lk_cons (d : Nat) (v : Value) (l : List (Nat × Value)) (s : Nat) : lk ((d, v) :: l) s = if d = s then some v else lk l s := by
  show (bif Nat.beq d s then some v else lk l s) = _
  by_cases h : d = s
  · subst h; simp
  · have : Nat.beq d s = false := by
      cases hb : Nat.beq d s with
      | false => rfl
      | true => exact absurd (Nat.eq_of_beq_eq_true hb) h
    simp [this, h]

theorem Fr.put {n : Nat} {l : List (Nat × Value)} {a : Act} (h : Fr n l a) {d : Nat} (hd : Nat.blt d n = true) (v : Value) : Fr n ((d, v) :: l) (a.put (some d) v) := by
  have hd' : d < n := by simpa [Nat.blt_eq] using hd
  refine ⟨h.defers, by simp [Act.put, h.size], fun s u hs => ?_⟩
  rw [lk_cons] at hs
  simp only [Act.put]
  by_cases he : d = s
  · subst he
    rw [if_pos rfl] at hs
    cases hs
    rw [Array.getElem?_setIfInBounds]
    simp [h.size, hd']
  · rw [if_neg he] at hs
    rw [Array.getElem?_setIfInBounds_ne he]
    exact h.val s u hs

/-- Fewer slots: each pair of the new list is what the old one says. -/
def sub (l : List (Nat × Value)) : List (Nat × Value) → Prop
  | [] => True
  | p :: m => lk l p.1 = some p.2 ∧ sub l m

theorem Fr.of_sub {n : Nat} {l m : List (Nat × Value)} {a : Act} (h : Fr n l a) (hs : sub l m) : Fr n m a := by
  refine ⟨h.defers, h.size, fun s v hv => ?_⟩
  induction m with
  | nil => cases hv
  | cons p m ih =>
    obtain ⟨d, u⟩ := p
    rw [lk_cons] at hv
    by_cases he : d = s
    · subst he
      rw [if_pos rfl] at hv
      cases hv
      exact h.val _ _ hs.1
    · rw [if_neg he] at hv
      exact ih hs.2 hv

/-! ### Code and lists of operations, in any frame that is so -/
def WC (P : Program) (Q : Exit → Act → World → Prop) (n : Nat) (l : List (Nat × Value)) (c : Code) (w : World) : Prop :=
  ∀ a, Fr n l a → Code.wp P c Q a w
def WL (P : Program) (ops : Array Oper) (Q : Exit → Act → World → Prop) (n : Nat) (l : List (Nat × Value)) (rest : List Oper) (w : World) : Prop :=
  ∀ a, Fr n l a → wpList P ops Q rest a w
/-- What is asked at an exit. -/
def WQ (Q : Exit → Act → World → Prop) (e : Exit) (n : Nat) (l : List (Nat × Value)) (w : World) : Prop :=
  ∀ a, Fr n l a → Q e a w

section code
variable {P : Program} {Q : Exit → Act → World → Prop} {n : Nat} {l : List (Nat × Value)} {w : World}

theorem WC.sub {m : List (Nat × Value)} {c : Code} (hs : sub l m) (h : WC P Q n m c w) : WC P Q n l c w := fun a ha => h a (ha.of_sub hs)
theorem WL.sub {m : List (Nat × Value)} {ops : Array Oper} {rest : List Oper} (hs : Vc.sub l m) (h : WL P ops Q n m rest w) : WL P ops Q n l rest w := fun a ha => h a (ha.of_sub hs)
theorem WQ.sub {m : List (Nat × Value)} {e : Exit} (hs : Vc.sub l m) (h : WQ Q e n m w) : WQ Q e n l w := fun a ha => h a (ha.of_sub hs)

theorem WC.seq {x y : Code} (h : WC P (Exit.then (y.wp P Q) Q) n l x w) : WC P Q n l (.seq x y) w := fun a ha => wp_seq (h a ha)
theorem WC.skip (h : WQ Q .normal n l w) : WC P Q n l .skip w := fun a ha => wp_skip (h a ha)
theorem WC.label {k : Nat} (h : WQ Q .normal n l w) : WC P Q n l (.label k) w := fun a ha => wp_label (h a ha)
theorem WC.exit {k : Nat} (h : WQ Q (.exit k) n l w) : WC P Q n l (.exit k) w := fun a ha => wp_exit (h a ha)
theorem WC.ret (h : WQ Q .ret n l w) : WC P Q n l .ret w := fun a ha => wp_ret (h a ha)
theorem WC.block {k : Nat} {c : Code} (h : WC P (Exit.inBlock k Q) n l c w) : WC P Q n l (.block k c) w := fun a ha => wp_block (h a ha)
theorem WC.cond {c : Operand} {x y : Code} {t : Bool} (hc : opv l c = some (.bool t)) (h1 : t = true → WC P Q n l x w) (h2 : t = false → WC P Q n l y w) :
    WC P Q n l (.cond c x y) w := fun a ha => wp_cond_split (ha.eval hc) (fun h => h1 h a ha) (fun h => h2 h a ha)
theorem WC.cond_true {c : Operand} {x y : Code} (hc : opv l c = some (.bool true)) (h : WC P Q n l x w) : WC P Q n l (.cond c x y) w :=
  fun a ha => wp_cond_true (ha.eval hc) (h a ha)
theorem WC.cond_false {c : Operand} {x y : Code} (hc : opv l c = some (.bool false)) (h : WC P Q n l y w) : WC P Q n l (.cond c x y) w :=
  fun a ha => wp_cond_false (ha.eval hc) (h a ha)
theorem WC.region {k : Nat} {ops : List Oper} (h : WL P ops.toArray Q n l ops w) : WC P Q n l (.region k ops.toArray false) w :=
  fun a ha => wp_region_lit (h a ha)

/-- The end of what stands ahead in a sequence. -/
theorem WQ.next {y : Code} (h : WC P Q n l y w) : WQ (Exit.then (y.wp P Q) Q) .normal n l w := fun a ha => h a ha
theorem WQ.pass {K : Act → World → Prop} {e : Exit} (he : e ≠ .normal) (h : WQ Q e n l w) : WQ (Exit.then K Q) e n l w := fun a ha => by
  cases e <;> first | exact absurd rfl he | exact h a ha
theorem WQ.hit {k : Nat} (h : WQ Q .normal n l w) : WQ (Exit.inBlock k Q) (.exit k) n l w := fun a ha => by
  simp only [Exit.inBlock, if_true]; exact h a ha
theorem WQ.by {k j : Nat} (hj : Nat.beq j k = false) (h : WQ Q (.exit j) n l w) : WQ (Exit.inBlock k Q) (.exit j) n l w := fun a ha => by
  have : ¬ j = k := fun e => by subst e; simp at hj
  simp only [Exit.inBlock, if_neg this]; exact h a ha
theorem WQ.out {k : Nat} {e : Exit} (he : ∀ j, e ≠ .exit j) (h : WQ Q e n l w) : WQ (Exit.inBlock k Q) e n l w := fun a ha => by
  cases e <;> first | exact absurd rfl (he _) | exact h a ha
theorem WL.nil {ops : Array Oper} (h : WQ Q .normal n l w) : WL P ops Q n l [] w := fun a ha => wpList_nil (h a ha)

/-- A place where ways meet: what is known of the frame and the world there is said by J. -/
theorem WC.meet {x y : Code} (J : Act → World → Prop) (hy : ∀ a w, J a w → y.wp P Q a w) (hx : WC P (Exit.then J Q) n l x w) : WC P Q n l (.seq x y) w :=
  fun a ha => wp_seq (wp_mono (hx a ha) fun e a' w' hq => by cases e <;> first | exact hy _ _ hq | exact hq)
theorem WQ.there {J : Act → World → Prop} (h : ∀ a, Fr n l a → J a w) : WQ (Exit.then J Q) .normal n l w := fun a ha => h a ha

/-- A loop, with a state beside it. -/
theorem WC.loop {σ : Type} {c : Code} (J : σ → Act → World → Prop) (μ : σ → Nat) (s0 : σ) (h0 : ∀ a, Fr n l a → J s0 a w)
    (round : ∀ s a w, J s a w → c.wp P (Exit.then (fun a' w' => ∃ s', J s' a' w' ∧ μ s' < μ s) Q) a w) : WC P Q n l (.loop c) w := by
  intro a ha
  let I : Act → World → Prop := fun a w => ∃ s, J s a w
  have hex : ∀ a w, I a w → ∃ m, ∃ s, J s a w ∧ μ s = m := fun a w ⟨s, hs⟩ => ⟨μ s, s, hs, rfl⟩
  have least : ∀ (p : Nat → Prop), (∃ m, p m) → ∃ m, p m ∧ ∀ k, p k → m ≤ k := by
    intro p ⟨m, hm⟩
    induction m using Nat.strongRecOn with
    | _ m ih =>
      by_cases h : ∃ k, k < m ∧ p k
      · obtain ⟨k, hk, hp⟩ := h; exact ih k hk hp
      · exact ⟨m, hm, fun k hk => Nat.le_of_not_lt fun hlt => h ⟨k, hlt, hk⟩⟩
  let M : Act → World → Nat := fun a w => open Classical in if h : I a w then (least _ (hex a w h)).choose else 0
  have hM : ∀ a w, I a w → (∃ s, J s a w ∧ μ s = M a w) ∧ ∀ s, J s a w → M a w ≤ μ s := by
    intro a w h
    have hc := (least _ (hex a w h)).choose_spec
    have he : M a w = (least _ (hex a w h)).choose := by simp only [M, dif_pos h]
    rw [he]
    exact ⟨hc.1, fun s hs => hc.2 _ ⟨s, hs, rfl⟩⟩
  refine wp_loop I M ⟨s0, h0 a ha⟩ fun a w hI => ?_
  obtain ⟨⟨s, hs, hm⟩, _⟩ := hM a w hI
  refine wp_mono (round s a w hs) fun e a' w' hq => ?_
  cases e <;> first
    | exact hq
    | (obtain ⟨s', hs', hlt⟩ := hq
       have := (hM a' w' ⟨s', hs'⟩).2 s' hs'
       exact ⟨⟨s', hs'⟩, by omega⟩)

theorem of_J {J : Act → World → Prop} {c : Code} (h : ∀ a w, J a w → ∃ l, Fr n l a ∧ WC P Q n l c w) : ∀ a w, J a w → c.wp P Q a w :=
  fun a w hj => let ⟨_, hf, hc⟩ := h a w hj; hc a hf
end code

/-! ### Entering and leaving -/
theorem enter {P : Program} {f : FuncId} {fn : Func} {c : Code} {args : Array Value} {w : World} {R : Ending → World → Prop} {n : Nat} {l : List (Nat × Value)}
    (hf : P.funcs[f]? = some fn) (hb : fn.body = some c) (hn : fn.ntmps = n) (hs : Nat.ble args.size n = true) (hl : ∀ s v, lk l s = some v → args[s]? = some v)
    (h : WC P (bodyPost P fn R) n l c w) : Calls P f args w R := by
  have hs' : args.size ≤ n := by simpa using hs
  refine calls_of_wp hf hb (h _ ⟨rfl, by simp [hn]; omega, fun s v hv => ?_⟩)
  have := hl s v hv
  have hlt : s < args.size := by
    rcases Nat.lt_or_ge s args.size with h | h
    · exact h
    · simp [Array.getElem?_eq_none h] at this
  simp only [Array.getElem?_append, hlt, if_true]
  exact this

theorem lk_args_nil (args : Array Value) : ∀ s v, lk [] s = some v → args[s]? = some v := fun _ _ h => by cases h
theorem lk_args_cons {args : Array Value} {d : Nat} {v : Value} {l : List (Nat × Value)} (h : args[d]? = some v) (hl : ∀ s v, lk l s = some v → args[s]? = some v) :
    ∀ s u, lk ((d, v) :: l) s = some u → args[s]? = some u := fun s u hs => by
  rw [lk_cons] at hs
  by_cases he : d = s
  · subst he; rw [if_pos rfl] at hs; cases hs; exact h
  · rw [if_neg he] at hs; exact hl s u hs

section leave
variable {P : Program} {fn : Func} {R : Ending → World → Prop} {n : Nat} {l : List (Nat × Value)} {w : World}
theorem leave0 {e : Exit} (he : e = .ret ∨ e = .normal) (hr : fn.results = #[]) (h : R (.returned (.tuple #[])) w) : WQ (bodyPost P fn R) e n l w := fun a ha => by
  rcases he with rfl | rfl <;> exact ⟨ha.defers, _, results_none hr _ _ _, h⟩
theorem leave1 {t : Tmp} {v : Value} (hr : fn.results = #[.tmp t]) (hv : lk l t = some v) (h : R (.returned v) w) : WQ (bodyPost P fn R) .ret n l w := fun a ha => by
  have := ha.val t v hv
  refine ⟨ha.defers, _, results_tmp hr _ _ _, ?_⟩
  rw [Array.getD_eq_getD_getElem?, this]
  exact h
theorem leave2 {t u : Tmp} {v x : Value} (hr : fn.results = #[.tmp t, .tmp u]) (hv : lk l t = some v) (hx : lk l u = some x) (h : R (.returned (.tuple #[v, x])) w) : WQ (bodyPost P fn R) .ret n l w := fun a ha => by
  have h1 := ha.val t v hv
  have h2 := ha.val u x hx
  refine ⟨ha.defers, _, results_tmp2 hr _ _ _, ?_⟩
  rw [Array.getD_eq_getD_getElem?, h1, Array.getD_eq_getD_getElem?, h2]
  exact h
theorem leave3 {t u k : Tmp} {v x y : Value} (hr : fn.results = #[.tmp t, .tmp u, .tmp k]) (hv : lk l t = some v) (hx : lk l u = some x) (hy : lk l k = some y) (h : R (.returned (.tuple #[v, x, y])) w) : WQ (bodyPost P fn R) .ret n l w := fun a ha => by
  have h1 := ha.val t v hv
  have h2 := ha.val u x hx
  have h3 := ha.val k y hy
  refine ⟨ha.defers, _, results_tmp3 hr _ _ _, ?_⟩
  rw [Array.getD_eq_getD_getElem?, h1, Array.getD_eq_getD_getElem?, h2, Array.getD_eq_getD_getElem?, h3]
  exact h
end leave
end Go.Vc
