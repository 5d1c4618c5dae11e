/- Code that runs in a round of a range over a function, or behind one: the rules of the calculus in frames with a round, with deferred calls. The range over slices.Backward. -/
import Derived.Test.YtmdoicffgeihcaaGreatDoorAlc
import Derived.RangeFuncNested
import Derived.RangeFuncBox
import Derived.RangeFuncCalls
import Derived.RangeFuncLeaves
import Derived.OwnWalkIn
import Derived.OrdersIn
set_option linter.unusedVariables false
set_option linter.unusedSimpArgs false
namespace Go.Vc
open Go
/-- The widest fence, in the frame of a round. -/
abbrev FR (ro : Option Nat) : Fence := { Fence.wide with round := ro }
class NoOut (Q : Exit → Act → World → Prop) : Prop where
  out : ∀ a w, ¬ Q .outgrown a w
instance {K : Act → World → Prop} {Q : Exit → Act → World → Prop} [h : NoOut Q] : NoOut (Exit.then K Q) := ⟨fun a w hq => h.out a w hq⟩
instance {k : Nat} {Q : Exit → Act → World → Prop} [h : NoOut Q] : NoOut (Exit.inBlock k Q) := ⟨fun a w hq => h.out a w hq⟩
instance : NoOut (fun _ _ _ => False) := ⟨fun _ _ h => h⟩
/-- An act with other deferred calls. -/
def wd (ds : List Deferred) (a : Act) : Act := { a with defers := ds }
theorem wd_put (ds : List Deferred) (a : Act) (d : Option Tmp) (v : Value) : (wd ds a).put d v = wd ds (a.put d v) := by cases d <;> rfl
def notDefer (o : Oper) : Bool := match o.op with | .defer _ => false | _ => true
theorem notDefer_spec {o : Oper} (h : notDefer o = true) : ∀ c, o.op ≠ .defer c := fun c e => by simp [notDefer, e] at h
section
variable {P : Program} {ro : Option Nat} {m : Nat} {ds : List Deferred}
theorem callsR {f : FuncId} {args : Array Value} {w : World} {R : Ending → World → Prop} (h : Calls P f args w R) : CallsIn (FR ro) m P f args w R :=
  (callsIn_wide (n := m)).2 h
theorem rowsR {row : String} {args : Array Value} {w : World} {R : Value → World → Prop} (h : Rows P row args w R) : RowsIn (FR ro) m P row args w R := fun c cs _ => by
  obtain ⟨v, w', h1, h2⟩ := h c cs
  exact ⟨v, w', h1, stepsIn_wide.2 h2⟩
/-- What is asked behind, in a frame with no deferred calls of its own. -/
def bk (ds : List Deferred) (Q : Exit → Act → World → Prop) : Exit → Act → World → Prop := fun e a w => a.defers = [] ∧ Q e (wd ds a) w
instance {Q : Exit → Act → World → Prop} [h : NoOut Q] : NoOut (bk ds Q) := ⟨fun a w hq => h.out _ w hq.2⟩
theorem list_defers {ops : Array Oper} {Q : Exit → Act → World → Prop} [hn : NoOut Q] : ∀ {rest : List Oper} {a : Act} {w : World}, wpList P ops (bk ds Q) rest a w → a.defers = []
  | [], _, _, h => h.1
  | o :: rest, a, w, h => by
    unfold wpList at h
    have hput : ∀ (d : Option Tmp) (v : Value), (a.put d v).defers = a.defers := fun d v => by cases d <;> rfl
    split at h
    · rcases h with h | ⟨_, a', w', h⟩
      · unfold Oper.wp at h
        generalize (execOp a.eval o).run P w = r at h
        cases r with
        | ok nx w' =>
          cases nx <;> simp only [Oper.upon] at h
          case value v => exact (hput _ _).symm.trans (list_defers h)
          case skip => exact (hput _ _).symm.trans (list_defers h)
          case defer d =>
            have := list_defers h
            generalize o.dst = od at this
            cases od <;> simp [Act.put] at this
          case enter f args =>
            obtain ⟨e, w'', fr, h1, _⟩ := h []
            cases e with
            | returned v => exact (hput _ _).symm.trans (list_defers h1)
            | panicked c => exact h1.1
            | outgrown => obtain ⟨a', w', h2⟩ := h1; exact absurd h2.2 (hn.out _ _)
          case row row args =>
            obtain ⟨v, w'', h1, _⟩ := h default []
            exact (hput _ _).symm.trans (list_defers h1)
        | halt x w' =>
          cases x <;> simp only [Oper.upon] at h
          exact h.1
      · exact absurd h.2 (hn.out _ _)
    · exact (hput _ _).symm.trans (list_defers h)
theorem list_up {ops : Array Oper} {Q : Exit → Act → World → Prop} [hn : NoOut Q] : ∀ {rest : List Oper} {a : Act} {w : World}, rest.all notDefer = true → wpList P ops (bk ds Q) rest a w → wpListIn (FR ro) m P ops Q rest (wd ds a) w
  | [], _, _, _, h => h.2
  | o :: rest, a, w, hnd, h => by
    simp only [List.all_cons, Bool.and_eq_true] at hnd
    unfold wpList at h
    unfold wpListIn
    show if Region.wanted o (yielded ops a.tmps) = true then _ else _
    split at h
    · rename_i hw
      rw [if_pos hw]
      rcases h with h | ⟨_, a', w', h⟩
      · refine ⟨fun _ _ => trivial, ?_⟩
        rw [Oper.semAt_plain (FR ro) _ o (notDefer_spec hnd.1)]
        show Oper.uponIn (FR ro) m P o (wd ds a) _ Q ((execOp a.eval o).run P w)
        unfold Oper.wp at h
        generalize (execOp a.eval o).run P w = r at h
        cases r with
        | ok nx w' =>
          cases nx <;> simp only [Oper.upon] at h <;> simp only [Oper.uponIn]
          case value v => rw [wd_put]; exact list_up hnd.2 h
          case skip => rw [wd_put]; exact list_up hnd.2 h
          case defer d =>
            have := list_defers h
            generalize o.dst = od at this
            cases od <;> simp [Act.put] at this
          case enter f args =>
            refine ⟨fun hd => (by cases hd), callsR (h.mono fun e w'' hq => ?_)⟩
            cases e with
            | returned v => simp only at hq ⊢; rw [wd_put]; exact list_up hnd.2 hq
            | panicked c => exact hq.2
            | outgrown => obtain ⟨a', w', h2⟩ := hq; exact absurd h2.2 (hn.out _ _)
          case row row args =>
            refine ⟨fun hd => (by cases hd), rowsR (h.mono fun v w'' hq => ?_)⟩
            rw [wd_put]; exact list_up hnd.2 hq
        | halt x w' =>
          cases x <;> simp only [Oper.upon] at h <;> simp only [Oper.uponIn]
          exact h.2
      · exact absurd h.2 (hn.out _ _)
    · rename_i hw
      rw [if_neg hw]
      refine ⟨fun _ _ => trivial, ?_⟩
      rw [wd_put]; exact list_up hnd.2 h
/-- A quiet region. -/
theorem quiet_op {o : Oper} {a : Act} {w : World} {C : World → Prop} {K : Act → Prop} {K' : Act → World → Prop} {Q' : Exit → Act → World → Prop} (hnd : notDefer o = true) (hw : C w) (h : ∀ a w', C w' → K a → K' (wd ds a) w') (hh : o.quiet P a C K) : o.wpIn (FR ro) m P (wd ds a) w K' Q' := by
  obtain ⟨v, h1, h2⟩ := hh
  have h3 := h1 w hw
  unfold Oper.quietAt at h3
  refine ⟨fun _ _ => trivial, ?_⟩
  rw [Oper.semAt_plain (FR ro) _ o (notDefer_spec hnd)]
  show Oper.uponIn (FR ro) m P o (wd ds a) _ Q' ((execOp a.eval o).run P w)
  generalize (execOp a.eval o).run P w = r at *
  cases r with
  | ok n w' =>
    cases n <;> simp only [Oper.quietUpon] at h3 <;> simp only [Oper.uponIn]
    case value u =>
      obtain ⟨e1, e2⟩ := h3
      rw [e1, e2, wd_put]
      exact h _ _ hw h2
    case skip =>
      obtain ⟨e1, e2⟩ := h3
      rw [e1, ← e2, wd_put]
      exact h _ _ hw h2
    case enter f args =>
      obtain ⟨e1, hc⟩ := h3
      rw [e1]
      refine ⟨fun hd => (by cases hd), callsR (hc.mono fun e w'' hq => ?_)⟩
      obtain ⟨rfl, hw''⟩ := hq
      show K' ((wd ds a).put o.dst v) w''
      rw [wd_put]; exact h _ _ hw'' h2
  | halt x w' => simp only [Oper.quietUpon] at h3
theorem any_of_quiet {ops : Array Oper} {C : World → Prop} {Q : Act → Prop} {Q' : Exit → Act → World → Prop} (hnd : ∀ o ∈ ops.toList, notDefer o = true) (hQ : ∀ a w, C w → Q a → Q' .normal (wd ds a) w) : ∀ (fuel : Nat) (listed : Array Bool) (a : Act) (w : World), C w →
    wpAnyQ P .any ops C Q fuel listed a → wpAnyIn (FR ro) m P .any ops Q' fuel listed (wd ds a) w
  | 0, _, _, _, hw, h => ⟨h.1, hQ _ _ hw h.2⟩
  | fuel + 1, listed, a, w, hw, h => ⟨fun h0 => hQ _ _ hw (h.1 h0), fun i hi => by
    have hh := h.2 i hi
    unfold qOp at hh
    unfold wpOpIn
    split
    · rename_i ho; simp only [ho] at hh; exact any_of_quiet hnd hQ fuel _ a w hw hh
    · rename_i o ho
      simp only [ho] at hh
      show if Region.wanted o (yielded ops a.tmps) = true then _ else _
      split
      · rename_i hwt
        simp only [hwt, if_true] at hh
        exact quiet_op (hnd o (by have := Array.mem_of_getElem? ho; simpa using this)) hw (fun a' w' hw' h' => any_of_quiet hnd hQ fuel _ a' w' hw' h') hh
      · rename_i hwt
        simp only [hwt] at hh
        refine ⟨fun _ _ => trivial, ?_⟩
        rw [wd_put]; exact any_of_quiet hnd hQ fuel _ _ w hw hh⟩
end

/-! ### Code, in any frame that is so -/
def XC (ro : Option Nat) (m : Nat) (ds : List Deferred) (P : Program) (Q : Exit → Act → World → Prop) (n : Nat) (l : List (Nat × Value)) (c : Code) (w : World) : Prop := ∀ a, Fr n l a → Code.wpIn (FR ro) m P c Q (wd ds a) w
def XQ (ds : List Deferred) (Q : Exit → Act → World → Prop) (e : Exit) (n : Nat) (l : List (Nat × Value)) (w : World) : Prop := ∀ a, Fr n l a → Q e (wd ds a) w
section code
variable {ro : Option Nat} {mm : Nat} {ds : List Deferred} {P : Program} {Q : Exit → Act → World → Prop} {n : Nat} {l : List (Nat × Value)} {w : World}
theorem XC.sub {m : List (Nat × Value)} {c : Code} (hs : Vc.sub l m) (h : XC ro mm ds P Q n m c w) : XC ro mm ds P Q n l c w := fun a ha => h a (ha.of_sub hs)
theorem XQ.sub {m : List (Nat × Value)} {e : Exit} (hs : Vc.sub l m) (h : XQ ds Q e n m w) : XQ ds Q e n l w := fun a ha => h a (ha.of_sub hs)
theorem XC.seq {x y : Code} (h : XC ro mm ds P (Exit.then (y.wpIn (FR ro) mm P Q) Q) n l x w) : XC ro mm ds P Q n l (.seq x y) w := fun a ha => wpIn_seq (h a ha)
theorem XC.skip (h : XQ ds Q .normal n l w) : XC ro mm ds P Q n l .skip w := fun a ha => wpIn_skip (h a ha)
theorem XC.label {k : Nat} (h : XQ ds Q .normal n l w) : XC ro mm ds P Q n l (.label k) w := fun a ha => wpIn_label (h a ha)
theorem XC.exit {k : Nat} (h : XQ ds Q (.exit k) n l w) : XC ro mm ds P Q n l (.exit k) w := fun a ha => wpIn_exit (h a ha)
theorem XC.ret (h : XQ ds Q .ret n l w) : XC ro mm ds P Q n l .ret w := fun a ha => wpIn_ret (h a ha)
theorem XC.block {k : Nat} {c : Code} (h : XC ro mm ds P (Exit.inBlock k Q) n l c w) : XC ro mm ds P Q n l (.block k c) w := fun a ha => wpIn_block (h a ha)
theorem XC.cond {c : Operand} {x y : Code} {t : Bool} (hc : opv l c = some (.bool t)) (h1 : t = true → XC ro mm ds P Q n l x w) (h2 : t = false → XC ro mm ds P Q n l y w) :
    XC ro mm ds P Q n l (.cond c x y) w := fun a ha => wpIn_cond_split (a := wd ds a) (ha.eval hc) (fun h => h1 h a ha) (fun h => h2 h a ha)
theorem XC.cond_true {c : Operand} {x y : Code} (hc : opv l c = some (.bool true)) (h : XC ro mm ds P Q n l x w) : XC ro mm ds P Q n l (.cond c x y) w :=
  fun a ha => wpIn_cond_true (a := wd ds a) (ha.eval hc) (h a ha)
theorem XC.cond_false {c : Operand} {x y : Code} (hc : opv l c = some (.bool false)) (h : XC ro mm ds P Q n l y w) : XC ro mm ds P Q n l (.cond c x y) w :=
  fun a ha => wpIn_cond_false (a := wd ds a) (ha.eval hc) (h a ha)
theorem XC.region [NoOut Q] {k : Nat} {ops : List Oper} (h : WL P ops.toArray (bk ds Q) n l ops w) (hnd : ops.all notDefer = true := by rfl) : XC ro mm ds P Q n l (.region k ops.toArray false) w :=
  fun a ha => wpIn_region_lit (list_up hnd (h a ha))
theorem XQ.back (h : XQ ds Q .normal n l w) : WQ (bk ds Q) .normal n l w := fun a ha => ⟨ha.defers, h a ha⟩
theorem XC.quiet {C : World → Prop} {k : Nat} {ol : List Oper} (hm : P.follows .mixedOrders = true) (hB : Region.lexB .any ol.toArray = true) (hC : C { w with drawn := w.drawn + 1 })
    (h : Wq P ol.toArray C (fun a' => ∀ w', C w' → bk ds Q .normal a' w') n l ol) (hnd : ol.all notDefer = true := by rfl) : XC ro mm ds P Q n l (.region k ol.toArray true) w := fun a ha => by
  simp only [Region.lexB, Bool.and_eq_true] at hB
  refine wpIn_region_any hm (any_of_quiet (Q := fun a' => ∀ w', C w' → bk ds Q .normal a' w') (by simpa using hnd) (fun _ w' hw' h => (h w' hw').2) _ _ _ _ hC ?_)
  have := wpAnyQ_lex (C := C) (md := .any) hB.1 ol.toArray.toList 0 (Array.replicate ol.toArray.size false) a (by simp) (by simpa using hB.2) (by simpa using h a ha)
  simpa using this
theorem XQ.next {y : Code} (h : XC ro mm ds P Q n l y w) : XQ ds (Exit.then (y.wpIn (FR ro) mm P Q) Q) .normal n l w := fun a ha => h a ha
theorem XQ.pass {K : Act → World → Prop} {e : Exit} (he : e ≠ .normal) (h : XQ ds Q e n l w) : XQ ds (Exit.then K Q) e n l w := fun a ha => by
  cases e <;> first | exact absurd rfl he | exact h a ha
theorem XQ.hit {k : Nat} (h : XQ ds Q .normal n l w) : XQ ds (Exit.inBlock k Q) (.exit k) n l w := fun a ha => by
  simp only [Exit.inBlock, if_true]; exact h a ha
theorem XQ.by {k j : Nat} (hj : Nat.beq j k = false) (h : XQ ds Q (.exit j) n l w) : XQ ds (Exit.inBlock k Q) (.exit j) n l w := fun a ha => by
  have : ¬ j = k := fun e => by subst e; simp at hj
  simp only [Exit.inBlock, if_neg this]; exact h a ha
theorem XQ.out {k : Nat} {e : Exit} (he : ∀ j, e ≠ .exit j) (h : XQ ds Q e n l w) : XQ ds (Exit.inBlock k Q) e n l w := fun a ha => by
  cases e <;> first | exact absurd rfl (he _) | exact h a ha
/-- What is known where ways meet, of a frame with other deferred calls. -/
def fw (ds : List Deferred) (J : Act → World → Prop) : Act → World → Prop := fun a w => ∃ b, a = wd ds b ∧ J b w
theorem XC.meet {x y : Code} (J : Act → World → Prop) (hy : ∀ a w, J a w → y.wpIn (FR ro) mm P Q (wd ds a) w) (hx : XC ro mm ds P (Exit.then (fw ds J) Q) n l x w) : XC ro mm ds P Q n l (.seq x y) w :=
  fun a ha => wpIn_seq (wpIn_mono (hx a ha) fun e a' w' hq => by cases e <;> first | (obtain ⟨b, rfl, hb⟩ := hq; exact hy _ _ hb) | exact hq)
theorem XQ.there {J : Act → World → Prop} (h : ∀ a, Fr n l a → J a w) : XQ ds (Exit.then (fw ds J) Q) .normal n l w := fun a ha => ⟨a, rfl, h a ha⟩
theorem XC.loop {σ : Type} {c : Code} (J : σ → Act → World → Prop) (μ : σ → Nat) (s0 : σ) (h0 : ∀ a, Fr n l a → J s0 a w)
    (round : ∀ s a w, J s a w → c.wpIn (FR ro) mm P (Exit.then (fw ds (fun a' w' => ∃ s', J s' a' w' ∧ μ s' < μ s)) Q) (wd ds a) w) : XC ro mm ds P Q n l (.loop c) w := by
  intro a ha
  let I : Act → World → Prop := fun a w => ∃ s b, a = wd ds b ∧ J s b w
  have hex : ∀ a w, I a w → ∃ k, ∃ s b, a = wd ds b ∧ J s b w ∧ μ s = k := fun a w ⟨s, b, e, hs⟩ => ⟨μ s, s, b, e, hs, rfl⟩
  have least : ∀ (p : Nat → Prop), (∃ m, p m) → ∃ m, p m ∧ ∀ k, p k → m ≤ k := by
    intro p ⟨m, hm⟩
    induction m using Nat.strongRecOn with
    | _ m ih =>
      by_cases h : ∃ k, k < m ∧ p k
      · obtain ⟨k, hk, hp⟩ := h; exact ih k hk hp
      · exact ⟨m, hm, fun k hk => Nat.le_of_not_lt fun hlt => h ⟨k, hlt, hk⟩⟩
  let M : Act → World → Nat := fun a w => open Classical in if h : I a w then (least _ (hex a w h)).choose else 0
  have hM : ∀ a w, I a w → (∃ s b, a = wd ds b ∧ J s b w ∧ μ s = M a w) ∧ ∀ s b, a = wd ds b → J s b w → M a w ≤ μ s := by
    intro a w h
    have hc := (least _ (hex a w h)).choose_spec
    have he : M a w = (least _ (hex a w h)).choose := by simp only [M, dif_pos h]
    rw [he]
    exact ⟨hc.1, fun s b e hs => hc.2 _ ⟨s, b, e, hs, rfl⟩⟩
  refine wpIn_loop I M ⟨s0, a, rfl, h0 a ha⟩ fun a w hI => ?_
  obtain ⟨⟨s, b, rfl, hs, hm⟩, _⟩ := hM a w hI
  refine wpIn_mono (round s b w hs) fun e a' w' hq => ?_
  cases e <;> first
    | exact hq
    | (obtain ⟨b', rfl, s', hs', hlt⟩ := hq
       have := (hM _ w' ⟨s', b', rfl, hs'⟩).2 s' b' rfl hs'
       exact ⟨⟨s', b', rfl, hs'⟩, by omega⟩)
theorem in_frameX {c : Code} {a : Act} (ha : Fr n l a) (h : XC ro mm ds P Q n l c w) : c.wpIn (FR ro) mm P Q (wd ds a) w := h a ha
end code
end Go.Vc
namespace Go.Vc
open Go Go.RowKit
/-! ### The heap across a round -/
def Low (B : Nat) (sg : Seg) : Prop := ∀ p ∈ sg, p.1 < B ∨ p.2.isCells = true
theorem Low.append {B : Nat} {s t : Seg} (h : Low B s) (k : Low B t) : Low B (s ++ t) := fun p hp => (List.mem_append.1 hp).elim (h p) (k p)
theorem Low.nil {B : Nat} : Low B [] := fun _ h => by cases h
theorem Low.box {B b : Nat} {arr : Array Value} {T : TypeId} {z : Nat × Nat} : Low B [(b, .cells arr T z)] := fun p hp => by rw [List.mem_singleton.1 hp]; exact .inr rfl
theorem Low.own {α : Type} {H : View} {c : Codec α} {T : TypeId} {v : Value} {xs : List α} {fp : Seg} {B : Nat} (h : OwnSl H c T v xs fp) : Low B fp := by
  rcases h with ⟨_, _, rfl⟩ | ⟨b, cap, arr, cs, rest, _, rfl, _⟩
  · exact Low.nil
  · exact Low.box
theorem Low.ar {T : TypeId} {A : Arena} {fp : Seg} {B : Nat} (h : IsAr T A fp) : Low B fp := by
  induction A generalizing fp with
  | nil => cases h; exact Low.nil
  | cons e A ih =>
    obtain ⟨o, g, rfl, ⟨arr, rest, rfl, _⟩, h2⟩ := h
    exact Low.append (s := [_]) Low.box (ih h2)
theorem Low.lt {B : Nat} {sg : Seg} (h : ∀ p ∈ sg, p.1 < B) : Low B sg := fun p hp => .inl (h p hp)
/-- A map's block is where it was. -/
theorem map_block {κ ν : Type} {H H' : View} {kc : KC κ} {c : Codec ν} {v : Value} {m m' : List (κ × ν)} {fp fp' : Seg} (h : OwnMp H kc c v m fp) (h' : OwnMp H' kc c v m' fp') {B : Nat} (hB : ∀ p ∈ fp, p.1 < B) : Low B fp' := by
  obtain ⟨r, es, clock, rfl, rfl, _⟩ := h
  obtain ⟨r', es', clock', e, rfl, _⟩ := h'
  cases e
  intro p hp
  rw [List.mem_singleton.1 hp]
  exact .inl (hB (r, .map es clock) (by simp))
section st
variable {w0 w w' : World} {H : View} {L M X : Seg}
theorem St.ltOf (h : St w0 H M w) : ∀ p ∈ M, p.1 < w.heap.size := fun p hp => (Array.getElem?_eq_some_iff.1 (h.own p hp)).1
theorem St.grown {B : Nat} {row : Option Nat} (h : St w0 H M w) (hH : ∀ k o, H k = some o → k < B) (hM : Low B M) (hg : w.grownBy w' row) (hr : ∀ r, row = some r → B ≤ r ∧ ∃ o : Obj, w.heap[r]? = some o ∧ o.isCells = false) : St w0 H M w' := by
  refine ⟨hg.os.trans h.os, hg.tape.trans h.tape, hg.output.trans h.output, Nat.le_trans h.size hg.size, fun k o hk => ?_, fun p hp => ?_, h.sep, h.nodup, Nat.zero_le _⟩
  · have h1 := h.fits k o hk
    rw [hg.block k (Array.getElem?_eq_some_iff.1 h1).1 (fun e => by have := (hr k e.symm).1; have := hH k o hk; omega)]; exact h1
  · have h1 := h.own p hp
    rw [hg.block p.1 (Array.getElem?_eq_some_iff.1 h1).1 (fun e => by
      obtain ⟨g1, o, g2, g3⟩ := hr p.1 e.symm
      rw [h1] at g2; cases g2
      rcases hM p hp with h | h
      · omega
      · rw [h] at g3; cases g3)]; exact h1
theorem St.adds (h : St w0 H M w) (hX : ∀ p ∈ X, w.heap[p.1]? = some p.2 ∧ H p.1 = none ∧ p.1 ∉ M.map (·.1)) (hn : (X.map (·.1)).Nodup) : St w0 H (M ++ X) w := by
  refine ⟨h.os, h.tape, h.output, h.size, h.fits, fun p hp => ?_, fun p hp => ?_, ?_, h.ahead⟩
  · rcases List.mem_append.1 hp with hp | hp
    · exact h.own p hp
    · exact (hX p hp).1
  · rcases List.mem_append.1 hp with hp | hp
    · exact h.sep p hp
    · exact (hX p hp).2.1
  · rw [List.map_append, List.nodup_append]
    refine ⟨h.nodup, hn, fun a ha b hb e => ?_⟩
    subst e
    obtain ⟨q, hq, rfl⟩ := List.mem_map.1 hb
    exact (hX q hq).2.2 ha
/-- The blocks of a world that are no cells, from one on. -/
def hard (w : World) (B : Nat) : Seg := (List.range w.heap.size).filterMap fun k => if B ≤ k then (w.heap[k]?).bind fun o => if o.isCells then none else some (k, o) else none
theorem hard_mem {B : Nat} {p : Nat × Obj} : p ∈ hard w B ↔ B ≤ p.1 ∧ w.heap[p.1]? = some p.2 ∧ p.2.isCells = false := by
  obtain ⟨k, o⟩ := p
  unfold hard
  rw [List.mem_filterMap]
  constructor
  · rintro ⟨j, _, hj⟩
    split at hj
    · rename_i hB
      cases hx : w.heap[j]? with
      | none => rw [hx] at hj; cases hj
      | some o' =>
        rw [hx, Option.bind_some] at hj
        split at hj
        · cases hj
        · rename_i hc; cases hj; exact ⟨hB, hx, by simpa using hc⟩
    · cases hj
  · rintro ⟨h1, h2, h3⟩
    simp only at h1 h2 h3
    exact ⟨k, List.mem_range.2 (Array.getElem?_eq_some_iff.1 h2).1, by rw [if_pos h1, h2, Option.bind_some, h3]; rfl⟩
theorem hard_keys {B : Nat} : ((hard w B).map (·.1)).Nodup := by
  have : ∀ (l : List Nat), l.Nodup → ((l.filterMap fun k => if B ≤ k then (w.heap[k]?).bind fun o => if o.isCells then none else some (k, o) else none).map (·.1)).Nodup ∧ ∀ x ∈ ((l.filterMap fun k => if B ≤ k then (w.heap[k]?).bind fun o => if o.isCells then none else some (k, o) else none).map (·.1)), x ∈ l := by
    intro l
    induction l with
    | nil => intro _; exact ⟨List.nodup_nil, fun x hx => by cases hx⟩
    | cons k l ih =>
      intro hn
      rw [List.nodup_cons] at hn
      obtain ⟨h1, h2⟩ := ih hn.2
      rw [List.filterMap_cons]
      split
      · exact ⟨h1, fun x hx => List.mem_cons_of_mem _ (h2 x hx)⟩
      · rename_i q hq
        have hk : q.1 = k := by
          split at hq
          · cases hx : w.heap[k]? with
            | none => rw [hx] at hq; cases hq
            | some o =>
              rw [hx, Option.bind_some] at hq
              split at hq
              · cases hq
              · cases hq; rfl
          · cases hq
        rw [List.map_cons, List.nodup_cons, hk]
        exact ⟨⟨fun h => hn.1 (h2 _ h), h1⟩, fun x hx => by rcases List.mem_cons.1 hx with rfl | hx; exact List.mem_cons_self; exact List.mem_cons_of_mem _ (h2 x hx)⟩
  exact (this _ List.nodup_range).1
end st
/-- The elements of a slice, from its end. -/
abbrev Bel (xs : List Int) : Type := { p : Int × Int // I64 p.2 ∧ p.2 ∈ xs }
def benc {xs : List Int} (p : Bel xs) : Array Value := #[.int .i64 p.1.1, .int .i64 p.1.2]
def KpL (K : Seg) (W W' : World) : Prop := ∀ p ∈ K, W.heap[p.1]? = some p.2 → W'.heap[p.1]? = some p.2
/-- What an iterator over a slice from its end is. -/
def BackIt (P : Program) (gf : Nat) (T T2 : TypeId) : Prop := ∀ (H : View) (bs : Nat) (sv : Value) (xs : List Int) (fp : Seg) (w : World), OwnSl H (cInt .i64) T sv xs fp → (∀ p ∈ [(bs, Obj.cells #[sv] T2 (0, 0))] ++ fp, w.heap[p.1]? = some p.2) →
  SeqStopsK Fence.wide 2 P gf #[.pointer (some ⟨bs, 0, none⟩)] (benc (xs := xs)) (KpL ([(bs, Obj.cells #[sv] T2 (0, 0))] ++ fp)) (fun ys => ys.map (fun p => p.1.2) = xs.reverse) (fun _ => True) xs.length w
def NormP (R : World → Prop) : Exit → Act → World → Prop := fun e _ w => e = .normal ∧ R w
instance {R : World → Prop} : NoOut (NormP R) := ⟨fun _ _ h => by cases h.1⟩
section rule
variable {P : Program} {Q : Exit → Act → World → Prop} {n : Nat} {l : List (Nat × Value)} {w w0 : World} {ds : List Deferred} {H : View} {L : Seg}
theorem XC.back {g : Operand} {ti te : Tmp} {assign body : Code} {gf bs : Nat} {T T2 : TypeId} {sv : Value} {xs : List Int} {fp : Seg} {lx : Int × Int → List (Nat × Value)}
    (hg : opv l g = some (.func (.func gf) #[] #[.pointer (some ⟨bs, 0, none⟩)])) (eg : ∀ args w, (callFunc gf args).run P w = .ok (.enter gf args) w) (hit : BackIt P gf T T2) (ht : Nat.blt ti n = true) (ht2 : Nat.blt te n = true)
    (hsv : OwnSl H (cInt .i64) T sv xs fp) (JS : List Int → Seg → Prop) (hlow : ∀ pre sg, JS pre sg → Low w.heap.size sg) (hK : ∀ pre sg, JS pre sg → ∀ p ∈ [(bs, Obj.cells #[sv] T2 (0, 0))] ++ fp, p ∈ sg)
    (sg0 : Seg) (h0 : JS [] sg0) (hS0 : St w0 H (sg0 ++ L) w)
    (hassign : ∀ (l0 : Nat) (x : Int × Int) (W : World), XC (some l0) 1 [] P (Exit.then (fun a' w' => w' = W ∧ Fr n (lx x) a') (fun _ _ _ => False)) n ((te, .int .i64 x.2) :: (ti, .int .i64 x.1) :: l) assign W)
    (hbody : ∀ (l0 : Nat) (w0 : World) (L : Seg) (pre : List Int) (k x : Int) (w : World) (sg : Seg), x ∈ xs → I64 x → pre.length < xs.length → JS pre sg → St w0 H (sg ++ L) w →
      XC (some l0) 1 [] P (NormP fun w' => ∃ sg', JS (pre ++ [x]) sg' ∧ St w0 H (sg' ++ L) w') n (lx (k, x)) body w)
    (hdone : ∀ (D : Nat) (w : World) (sg : Seg), JS xs.reverse sg → St w0 H (sg ++ ([(D, .deferred (some []))] ++ L)) w → XQ ({ target := .collected D, args := #[] } :: ds) Q .normal n l w) :
    XC none 3 ds P Q n l (.rangeFunc g #[ti, te] assign body) w := fun a ha => by
  have hLlt : ∀ p ∈ L, p.1 < w.heap.size := fun p hp => hS0.ltOf p (List.mem_append_right _ hp)
  have hHlt : ∀ k o, H k = some o → k < w.heap.size := fun k o hk => hS0.lt hk
  have hlowL : Low w.heap.size L := Low.lt hLlt
  refine wpIn_rangeFunc_ownH (F := Fence.wide) (n := 3) (α := Bel xs) rfl (by omega) (a := wd ds a) (ha.eval hg) trivial eg (encs := benc) (Kp := KpL ([(bs, Obj.cells #[sv] T2 (0, 0))] ++ fp)) (S := fun ys => ys.map (fun p => p.1.2) = xs.reverse) (Sp := fun _ => True) (N := xs.length) (w0 := w)
    (hit H bs sv xs fp w hsv (fun p hp => hS0.own p (List.mem_append_left _ (hK _ _ h0 p hp)))) (fun h k p hp e => k p hp (h p hp e))
    (fun W l o o' h1 h2 h3 h4 p hp e => ?_) (Below.refl _ w) (fun x => rfl) (fun pre W => ∃ sg, JS (pre.map fun p => p.1.2) sg ∧ St w0 H (sg ++ L) W) (fun _ _ _ => False) (fun pre W W' row hs hgr hr => ?_) (fun c pre W W' row hs _ _ => hs) ⟨sg0, h0, hS0⟩
    (fun x a' _ => Fr n (lx x.1) a') (fun x a' _ W W' row hs _ _ => hs) (fun l0 pre x W K hI hKK => ?_) (fun l0 pre x a' W hl0 _ hI hax hlen => ?_) (fun D ys W hD hys hI hDb => ?_) (fun D c pre W _ _ h _ => h.elim)
  · have hlt : p.1 < w.heap.size := hS0.ltOf p (List.mem_append_left _ (hK _ _ h0 p hp))
    rw [World.putObj_heap_other (by omega)]; exact e
  · obtain ⟨sg, h1, h2⟩ := hs
    exact ⟨sg, h1, h2.grown hHlt ((hlow _ _ h1).append hlowL) hgr hr⟩
  · have h1 := hassign l0 x.1 W (({ a with defers := [] } : Act).put (some ti) (.int .i64 x.1.1) |>.put (some te) (.int .i64 x.1.2)) (by
      have h2 : Fr n l ({ a with defers := [] } : Act) := ⟨rfl, ha.size, ha.val⟩
      exact (h2.put ht _).put ht2 _)
    have e0 : ({ tmps := (#[ti, te].zip (benc x)).foldl (fun t (p, v) => t.setIfInBounds p v) (wd ds a).tmps, defers := [] } : Act) = wd [] (({ a with defers := [] } : Act).put (some ti) (.int .i64 x.1.1) |>.put (some te) (.int .i64 x.1.2)) := by
      simp [benc, wd, Act.put]
    rw [e0]
    refine wpIn_mono h1 fun e a' w' hq => ?_
    cases e <;> first
      | (obtain ⟨rfl, hf⟩ := hq
         exact hKK a' _ (KeepsFrom.refl _ _) (fun p hp e => e) hI hf)
      | exact hq
  · obtain ⟨sg, h1, h2⟩ := hI
    have hlo : Low w.heap.size (sg ++ L) := (hlow _ _ h1).append hlowL
    have h3 : St W H ((sg ++ L) ++ hard W w.heap.size) W := by
      have h4 : St W H (sg ++ L) W := ⟨rfl, rfl, rfl, Nat.le_refl _, h2.fits, h2.own, h2.sep, h2.nodup, Nat.zero_le _⟩
      refine h4.adds (fun p hp => ?_) hard_keys
      obtain ⟨g1, g2, g3⟩ := hard_mem.1 hp
      refine ⟨g2, ?_, fun hm => ?_⟩
      · cases hx : H p.1 with
        | none => rfl
        | some o => have := hHlt _ _ hx; omega
      · obtain ⟨q, hq, e⟩ := List.mem_map.1 hm
        have g4 := h4.own q hq
        rw [e, g2] at g4
        have g5 := Option.some.inj g4
        rcases hlo q hq with h | h
        · omega
        · rw [← g5, g3] at h; cases h
    rw [List.append_assoc] at h3
    have h5 := hbody l0 W (L ++ hard W w.heap.size) (pre.map fun p => p.1.2) x.1.1 x.1.2 W sg x.2.2 x.2.1 (by simpa using hlen) h1 h3 a' hax
    have e0 : wd [] a' = a' := by
      have := hax.defers
      cases a'; simp only at this; subst this; rfl
    rw [e0] at h5
    refine wpIn_mono h5 fun e a'' w' hq => ?_
    obtain ⟨rfl, sg', g1, g2⟩ := hq
    refine ⟨⟨g2.size, fun k o hk hko hc => ?_⟩, fun p hp _ => g2.own p (List.mem_append_left _ (hK _ _ g1 p hp)), sg', by simpa using g1, ?_⟩
    · have := g2.own (k, o) (List.mem_append_right _ (List.mem_append_right _ (hard_mem.2 ⟨hk, hko, hc⟩)))
      exact this
    · rw [← List.append_assoc] at g2
      have g3 : St W H (sg' ++ L) w' := ⟨g2.os, g2.tape, g2.output, g2.size, g2.fits, fun p hp => g2.own p (List.mem_append_left _ hp), fun p hp => g2.sep p (List.mem_append_left _ hp), by have := g2.nodup; rw [List.map_append, List.nodup_append] at this; exact this.1, g2.ahead⟩
      exact ⟨g3.os.trans h2.os, g3.tape.trans h2.tape, g3.output.trans h2.output, Nat.le_trans h2.size g3.size, g3.fits, g3.own, g3.sep, g3.nodup, Nat.zero_le _⟩
  · obtain ⟨sg, h1, h2⟩ := hI
    have hys : ys.map (fun p => p.1.2) = xs.reverse := hys
    rw [hys] at h1
    refine hdone D W sg h1 ?_ a ha
    have hlo : Low w.heap.size (sg ++ L) := (hlow _ _ h1).append hlowL
    have h3 : St w0 H ((sg ++ L) ++ [(D, .deferred (some []))]) W := by
      refine h2.adds (fun p hp => ?_) (by simp)
      rw [List.mem_singleton.1 hp]
      refine ⟨hDb, ?_, fun hm => ?_⟩
      · cases hx : H D with
        | none => rfl
        | some o => have := hHlt _ _ hx; omega
      · obtain ⟨q, hq, e⟩ := List.mem_map.1 hm
        have g4 := h2.own q hq
        simp only at e
        rw [e, hDb] at g4
        have g5 := Option.some.inj g4
        rcases hlo q hq with h | h
        · omega
        · rw [← g5] at h; cases h
    refine h3.perm ?_
    rw [List.append_assoc]
    exact List.Perm.append_left _ List.perm_append_comm
end rule
/-! ### Entering and leaving a function with a range over a function -/
def bodyN (P : Program) (fn : Func) (R : Ending → World → Prop) : Exit → Act → World → Prop := fun e a w => e ≠ .outgrown ∧ bodyPostM (FR none) 3 P fn R e a w
instance {P : Program} {fn : Func} {R : Ending → World → Prop} : NoOut (bodyN P fn R) := ⟨fun _ _ h => h.1 rfl⟩
theorem enterX {P : Program} {f : FuncId} {fn : Func} {c : Code} {args : Array Value} {w : World} {R : Ending → World → Prop} {n : Nat} {l : List (Nat × Value)}
    (hf : P.funcs[f]? = some fn) (hb : fn.body = some c) (hn : fn.ntmps = n) (hs : Nat.ble args.size n = true) (hl : ∀ s v, lk l s = some v → args[s]? = some v)
    (h : XC none 3 [] P (bodyN P fn R) n l c w) : Calls P f args w R := by
  have hs' : args.size ≤ n := by simpa using hs
  refine callsIn_wide.1 (callsIn_of_wp_marks (F := Fence.wide) (n := 3) hf hb trivial (wpIn_mono (h { tmps := args ++ Array.replicate (fn.ntmps - args.size) undef, defers := [] } ⟨rfl, by simp [hn]; omega, fun s v hv => ?_⟩) fun e a w hq => hq.2))
  have := hl s v hv
  have hlt : s < args.size := by
    rcases Nat.lt_or_ge s args.size with h | h
    · exact h
    · simp [Array.getElem?_eq_none h] at this
  simp only [Array.getElem?_append, hlt, if_true]
  exact this
theorem leaveX1 {P : Program} {fn : Func} {R : Ending → World → Prop} {n : Nat} {l : List (Nat × Value)} {w w0 : World} {H : View} {M : Seg} {D : Nat} {t : Tmp} {v : Value} (hr : fn.results = #[.tmp t]) (hv : lk l t = some v)
    (hS : St w0 H ([(D, .deferred (some []))] ++ M) w) (h : ∀ w, St w0 H M w → R (.returned v) w) : XQ [{ target := .collected D, args := #[] }] (bodyN P fn R) .ret n l w := fun a ha => by
  refine ⟨by simp, ?_⟩
  have hD := hS.own (D, .deferred (some [])) (by simp)
  have hne : ∀ p ∈ M, p.1 ≠ D := fun p hp e => by
    have := hS.nodup
    rw [List.map_append, List.nodup_append] at this
    exact this.2.2 D (by simp) p.1 (List.mem_map_of_mem hp) e.symm
  show LeavesInM (FR none) 3 P fn a.tmps R [{ target := .collected D, args := #[] }] .returning w
  refine ⟨by simp, .inl ⟨_, _, rfl, run_takeDeferred hD, ?_⟩⟩
  have h1 := ha.val t v hv
  have h2 : R (.returned v) (w.putObj D (.deferred none)) := h _ ⟨hS.os, hS.tape, hS.output, by simpa using hS.size, fun k o hk => by
      rw [World.putObj_heap_other (fun e => by have := hS.sep (D, .deferred (some [])) (by simp); rw [← e, hk] at this; cases this)]; exact hS.fits k o hk, fun p hp => by
      rw [World.putObj_heap_other (hne p hp)]; exact hS.own p (List.mem_append_right _ hp), fun p hp => hS.sep p (List.mem_append_right _ hp), by have := hS.nodup; rw [List.map_append, List.nodup_append] at this; exact this.2.1, Nat.zero_le _⟩
  refine ⟨_, results_tmp hr _ _ _, ?_⟩
  rw [Array.getD_eq_getD_getElem?, h1]
  exact h2
end Go.Vc
namespace Go.Vc
open Go Go.RowKit
/-- Going over a slice from its end: the state behind each part that has come. -/
def VBack {σ : Type} (xs : List Int) (s0 : σ) (body : σ → Int → (σ → Prop) → Prop) (rest : σ → Prop) : Prop :=
  ∃ I : List Int → σ → Prop, I [] s0 ∧ (∀ pre x s, x ∈ xs → pre.length < xs.length → I pre s → body s x (I (pre ++ [x]))) ∧ (∀ s, I xs.reverse s → rest s)
theorem assign_one {P : Program} {n k d te ti : Nat} {ty : TypeId} {pos : String} {af : Array Edge} {l : List (Nat × Value)} (hd : Nat.blt d n = true) (hl : (l.all fun p => !Nat.beq p.1 te) = true) (hl2 : (l.all fun p => !Nat.beq p.1 ti) = true) :
    ∀ (l0 : Nat) (x : Int × Int) (W : World), XC (some l0) 1 [] P (Exit.then (fun a' w' => w' = W ∧ Fr n ((d, .int .i64 x.2) :: l) a') (fun _ _ _ => False)) n ((te, .int .i64 x.2) :: (ti, .int .i64 x.1) :: l) (.region k #[⟨some d, .assign (.tmp te), ty, pos, af, none⟩] false) W := fun l0 x W => by
  refine XC.region (WL.run (C := fun _ => True) trivial rfl rfl hd (ex_assign (v := .int .i64 x.2) (by simp [opv, lk])) (WL.nil (XQ.back fun a ha => ?_)))
  refine ⟨rfl, rfl, ha.size, fun s u hs => ?_⟩
  rw [lk_cons] at hs
  by_cases he : d = s
  · subst he
    rw [if_pos rfl] at hs
    exact ha.val _ _ (by rw [lk_cons, if_pos rfl]; exact hs)
  · rw [if_neg he] at hs
    refine ha.val _ _ ?_
    rw [lk_cons, if_neg he, lk_cons, if_neg (fun e => by subst e; rw [lk_none_of hl] at hs; cases hs), lk_cons, if_neg (fun e => by subst e; rw [lk_none_of hl2] at hs; cases hs)]
    exact hs
end Go.Vc
namespace Go.Vc
open Go
section
variable {κ ν : Type} {kc : KC κ} {c : Codec ν} {P : Program} {ops : Array Oper} {Q : Exit → Act → World → Prop} {n : Nat} {l : List (Nat × Value)} {rest : List Oper} {w0 w : World} {H K : View} {L : Seg} {C : World → Prop} {dst : Option Tmp} {ty : TypeId} {pos : String} {af : Array Edge} {gd : Option (Nat × Bool)}
theorem WL.insert [DecidableEq κ] {t kt et : TypeId} {x y z : Operand} {v u : Value} {m : List (κ × ν)} {fp : Seg} {k : κ} {e : ν} (ht : P.underlying t = some (.map kt et)) (hk : KeyOK P kt kc) (hok : kc.ok k) (hr : c.rep H [u] e) (hx : opv l x = some v) (hy : opv l y = some (kc.enc k)) (hz : opv l z = some u)
    (hw : St w0 H (fp ++ L) w) (hm : OwnMp H kc c v m fp) (go : ∀ w' fp', OwnMp H kc c v (mset m k e) fp' → St w0 H (fp' ++ L) w' → WL P ops Q n l rest w') : WL P ops Q n l (⟨none, .insert t x y z, ty, pos, af, none⟩ :: rest) w := by
  obtain ⟨w', fp', h1, h2, h3⟩ := run_mapUpdate (P := P) ht hk hok hr hm hw
  refine WL.turn0 rfl rfl (fun a ha => ?_) (go w' fp' h2 h3)
  simp [execOp, ha.eval hx, ha.eval hy, ha.eval hz, h1]
end
end Go.Vc
