/- Functions that put something off, and what is put off that catches a panic: frames with deferred calls. No program in sight. -/
import Derived.Test.YtlhkfkecoekoeaaGreatDoorSrt
import Derived.Recover
set_option linter.unusedVariables false
namespace Go.Vc
open Go
def sh (D : List Deferred) (Q : Exit → Act → World → Prop) : Exit → Act → World → Prop := fun e a w => Q e { a with defers := a.defers ++ D } w
section
variable {P : Program} {ops : Array Oper} {Q : Exit → Act → World → Prop} {D : List Deferred}
theorem put_app {a : Act} {d : Option Tmp} {v : Value} : ({ a with defers := a.defers ++ D } : Act).put d v = { (a.put d v) with defers := (a.put d v).defers ++ D } := by cases d <;> rfl
theorem lets_sh (h : LetsOut (sh D Q)) : LetsOut Q := let ⟨a, w, q⟩ := h; ⟨_, w, q⟩
theorem wpList_sh : ∀ (rest : List Oper) (a : Act) (w : World), wpList P ops (sh D Q) rest a w → wpList P ops Q rest { a with defers := a.defers ++ D } w
  | [], a, w, h => h
  | o :: rest, a, w, h => by
    have he : ({ a with defers := a.defers ++ D } : Act).eval = a.eval := by funext x; cases x <;> rfl
    have ih := wpList_sh rest
    simp only [wpList] at h ⊢
    show if Region.wanted o (yielded ops a.tmps) then _ else _
    split at h
    · rename_i hw
      rw [if_pos hw]
      rcases h with h | ⟨h, hl⟩
      · left
        unfold Oper.wp at h ⊢
        rw [he]
        generalize (execOp a.eval o).run P w = r at h ⊢
        unfold Oper.upon at h ⊢
        split at h
        · rw [put_app]; exact ih _ _ h
        · rw [put_app]; exact ih _ _ h
        · rename_i d w'
          have := ih _ _ h
          have e : ({ a with defers := d :: (a.defers ++ D) } : Act).put o.dst undef = { (({ a with defers := d :: a.defers } : Act).put o.dst undef) with defers := (({ a with defers := d :: a.defers } : Act).put o.dst undef).defers ++ D } := by cases o.dst <;> rfl
          rw [e]; exact this
        · refine Calls.mono h fun e w'' hh => ?_
          cases e with
          | returned v => simp only at hh ⊢; rw [put_app]; exact ih _ _ hh
          | panicked c => exact hh
          | outgrown => exact lets_sh hh
        · refine Rows.mono h fun v w'' hh => ?_
          rw [put_app]; exact ih _ _ hh
        · exact h
        · exact h.elim
      · right
        refine ⟨?_, lets_sh hl⟩
        unfold Oper.asks at h ⊢
        rw [he]; exact h
    · rename_i hw
      rw [if_neg hw, put_app]
      exact ih _ _ h
def FrD (D : List Deferred) (n : Nat) (l : List (Nat × Value)) (a : Act) : Prop := a.defers = D ∧ Fr n l { a with defers := [] }
def WCD (D : List Deferred) (P : Program) (Q : Exit → Act → World → Prop) (n : Nat) (l : List (Nat × Value)) (c : Code) (w : World) : Prop := ∀ a, FrD D n l a → Code.wp P c Q a w
def WQD (D : List Deferred) (Q : Exit → Act → World → Prop) (e : Exit) (n : Nat) (l : List (Nat × Value)) (w : World) : Prop := ∀ a, FrD D n l a → Q e a w
variable {n : Nat} {l : List (Nat × Value)} {w : World}
theorem FrD.mk {a : Act} (h : Fr n l a) : FrD D n l { a with defers := a.defers ++ D } := by
  have := h.defers
  refine ⟨by simp [this], ?_⟩
  cases a; simp only at this ⊢; subst this; exact h
theorem FrD.of_sub {m : List (Nat × Value)} {a : Act} (h : FrD D n l a) (hs : sub l m) : FrD D n m a := ⟨h.1, h.2.of_sub hs⟩
theorem FrD.eval {a : Act} (h : FrD D n l a) {x : Operand} {v : Value} (hx : opv l x = some v) : a.eval x = v := by
  have := h.2.eval hx; cases x <;> exact this
theorem WL.toD {rest : List Oper} {a : Act} (h : WL P ops (sh D Q) n l rest w) (ha : FrD D n l a) : wpList P ops Q rest a w := by
  have := wpList_sh (D := D) rest _ w (h _ ha.2)
  obtain ⟨h1, _⟩ := ha
  cases a; simp only at h1 this; subst h1; simpa using this
theorem WCD.sr {k : Nat} {os : List Oper} {y : Code} (h : WL P os.toArray (sh D (Exit.then (y.wp P Q) Q)) n l os w) : WCD D P Q n l (.seq (.region k os.toArray false) y) w := fun a ha => wp_seq (wp_region_lit (h.toD ha))
theorem WCD.region {k : Nat} {os : List Oper} (h : WL P os.toArray (sh D Q) n l os w) : WCD D P Q n l (.region k os.toArray false) w := fun a ha => wp_region_lit (h.toD ha)
theorem WL.nxD {y : Code} (h : WCD D P Q n l y w) : WL P ops (sh D (Exit.then (y.wp P Q) Q)) n l [] w := WL.nil fun a ha => h _ (FrD.mk ha)
theorem WCD.sub {m : List (Nat × Value)} {c : Code} (hs : Vc.sub l m) (h : WCD D P Q n m c w) : WCD D P Q n l c w := fun a ha => h a (ha.of_sub hs)
theorem WCD.seq {x y : Code} (h : WCD D P (Exit.then (y.wp P Q) Q) n l x w) : WCD D P Q n l (.seq x y) w := fun a ha => wp_seq (h a ha)
theorem WCD.skip (h : WQD D Q .normal n l w) : WCD D P Q n l .skip w := fun a ha => wp_skip (h a ha)
theorem WCD.ret (h : WQD D Q .ret n l w) : WCD D P Q n l .ret w := fun a ha => wp_ret (h a ha)
theorem WCD.block {k : Nat} {c : Code} (h : WCD D P (Exit.inBlock k Q) n l c w) : WCD D P Q n l (.block k c) w := fun a ha => wp_block (h a ha)
theorem WCD.cond {c : Operand} {x y : Code} {t : Bool} (hc : opv l c = some (.bool t)) (h1 : t = true → WCD D P Q n l x w) (h2 : t = false → WCD D P Q n l y w) : WCD D P Q n l (.cond c x y) w :=
  fun a ha => wp_cond_split (ha.eval hc) (fun h => h1 h a ha) (fun h => h2 h a ha)
theorem WQD.next {y : Code} (h : WCD D P Q n l y w) : WQD D (Exit.then (y.wp P Q) Q) .normal n l w := fun a ha => h a ha
theorem WQD.pass {K : Act → World → Prop} {e : Exit} (he : e ≠ .normal) (h : WQD D Q e n l w) : WQD D (Exit.then K Q) e n l w := fun a ha => by
  cases e <;> first | exact absurd rfl he | exact h a ha
theorem WQD.out {k : Nat} {e : Exit} (he : ∀ j, e ≠ .exit j) (h : WQD D Q e n l w) : WQD D (Exit.inBlock k Q) e n l w := fun a ha => by
  cases e <;> first | exact absurd rfl (he _) | exact h a ha
theorem WL.defer {x : Operand} {ty : TypeId} {pos : String} {af : Array Edge} {f : Nat} {cap : Array Value} {ts : Array TypeId} {y : Code} (hx : opv l x = some (.func (.func f) #[] cap))
    (he : ∀ a, Fr n l a → (execOp a.eval ⟨none, .defer { callee := .value x, args := #[], argTypes := ts }, ty, pos, af, none⟩).run P w = .ok (.defer { target := .fn (.func f) cap, args := #[] }) w)
    (h : WCD [{ target := .fn (.func f) cap, args := #[] }] P Q n l y w) : WL P ops (Exit.then (y.wp P Q) Q) n l [⟨none, .defer { callee := .value x, args := #[], argTypes := ts }, ty, pos, af, none⟩] w := fun a ha => wpList_plain rfl fun K hK => by
  unfold Oper.wp
  rw [he a ha, Oper.upon_defer]
  refine hK _ _ (wpList_nil ?_)
  have hd := ha.defers
  refine h _ ⟨by show _ :: a.defers = _; rw [hd], ?_⟩
  cases a; simp only at hd; subst hd; exact ha
theorem enterD {f : FuncId} {fn : Func} {c : Code} {args : Array Value} {R : Ending → World → Prop}
    (hf : P.funcs[f]? = some fn) (hb : fn.body = some c) (hn : fn.ntmps = n) (hs : Nat.ble args.size n = true) (hl : ∀ s v, lk l s = some v → args[s]? = some v)
    (h : WC P (bodyPostD P fn R) n l c w) : Calls P f args w R := by
  have hs' : args.size ≤ n := by simpa using hs
  refine calls_of_wp_defers hf hb (h _ ⟨rfl, by simp [hn]; omega, fun s v hv => ?_⟩)
  have := hl s v hv
  have hlt : s < args.size := by
    rcases Nat.lt_or_ge s args.size with h | h
    · exact h
    · simp [Array.getElem?_eq_none h] at this
  simp only [Array.getElem?_append, hlt, if_true]
  exact this
theorem enterS {f : FuncId} {fn : Func} {c : Code} {args : Array Value} {u : FrameMode} {R : Ending → FrameMode → World → Prop}
    (hf : P.funcs[f]? = some fn) (hb : fn.body = some c) (hn : fn.ntmps = n) (hs : Nat.ble args.size n = true) (hl : ∀ s v, lk l s = some v → args[s]? = some v)
    (h : ∀ (c₀ : Frame) (cs : List Frame) (a : Act), c₀.mode = u → Fr n l a → c.wpS P (bodyPostS P fn c₀ cs R) a (c₀ :: cs) w) : CallsD P f args u w R := by
  have hs' : args.size ≤ n := by simpa using hs
  refine callsD_of_wpS hf hb fun c₀ cs hu => h c₀ cs _ hu ⟨rfl, by simp [hn]; omega, fun s v hv => ?_⟩
  have := hl s v hv
  have hlt : s < args.size := by
    rcases Nat.lt_or_ge s args.size with h | h
    · exact h
    · simp [Array.getElem?_eq_none h] at this
  simp only [Array.getElem?_append, hlt, if_true]
  exact this
section
variable {QS : Exit → Act → List Frame → World → Prop} {k d : Nat} {ty : TypeId} {pos : String} {y : Code} {a : Act} {cs cs' : List Frame}
theorem wpS_recover_none (hr : recoverD cs = none) (h : y.wpS P QS (a.put (some d) .nilIface) cs w) : (Code.seq (.region k #[⟨some d, .call { callee := .builtin .recover, args := #[], argTypes := #[] }, ty, pos, #[], none⟩] false) y).wpS P QS a cs w := by
  refine wpS_seq (wpS_region ?_)
  have he : (execOp a.eval ⟨some d, .call { callee := .builtin .recover, args := #[], argTypes := #[] }, ty, pos, #[], none⟩).run P w = .ok .recover w := by kernel_rfl
  show wpOpsS P _ _ [0] a cs w
  simp only [wpOpsS, Region.wanted, List.getElem?_toArray, List.getElem?_cons_zero, he, hr, if_true]
  exact h
theorem wpS_recover_some {v : Value} (hr : recoverD cs = some (v, cs')) (h : y.wpS P QS (a.put (some d) v) cs' w) : (Code.seq (.region k #[⟨some d, .call { callee := .builtin .recover, args := #[], argTypes := #[] }, ty, pos, #[], none⟩] false) y).wpS P QS a cs w := by
  refine wpS_seq (wpS_region ?_)
  have he : (execOp a.eval ⟨some d, .call { callee := .builtin .recover, args := #[], argTypes := #[] }, ty, pos, #[], none⟩).run P w = .ok .recover w := by kernel_rfl
  show wpOpsS P _ _ [0] a cs w
  simp only [wpOpsS, Region.wanted, List.getElem?_toArray, List.getElem?_cons_zero, he, hr, if_true]
  exact h
theorem WC.inS {c : Code} {l : List (Nat × Value)} (h : WC P (fun e a' w' => QS e a' cs w') n l c w) (ha : Fr n l a) : c.wpS P QS a cs w := wpS_of_wp (h a ha)
end
theorem leaves_nil {fn : Func} {tmps : Array Value} {R : Ending → World → Prop} {v : Value} (h : (results fn tmps).run P w = .ok v w) (hR : R (.returned v) w) : Leaves P fn tmps R [] .returning w := ⟨v, h, hR⟩
end
end Go.Vc
