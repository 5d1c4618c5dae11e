/- Values that hold values: how they lie in memory. 'value.V' (one cell, an interface) and the document's 'V' (five cells). -/
import Derived.Test.YtlhkfkecoekoeaaGreatDoorStr
set_option linter.unusedVariables false
set_option linter.unusedSimpArgs false
namespace Go.Vc
open Go
structure Chain {α : Type} (c : Nat → Codec α) (k : Nat) : Prop where
  size : ∀ d, (c d).size = k
  up : ∀ {d H cs x}, (c d).rep H cs x → (c (d + 1)).rep H cs x
section chain
variable {α : Type} {c : Nat → Codec α} {k : Nat} {H : View}
theorem Chain.le (h : Chain c k) {d e : Nat} (hde : d ≤ e) {cs : List Value} {x : α} (hr : (c d).rep H cs x) : (c e).rep H cs x := by
  induction hde with
  | refl => exact hr
  | step _ ih => exact h.up ih
theorem Chain.reps_le (h : Chain c k) {d e : Nat} (hde : d ≤ e) : ∀ {xs : List α} {cs : List Value}, (c d).reps H cs xs → (c e).reps H cs xs
  | [], _, hr => hr
  | _ :: _, _, ⟨a, b, e1, h1, h2⟩ => ⟨a, b, e1, h.le hde h1, h.reps_le hde h2⟩
theorem Chain.sl_le (h : Chain c k) {d e : Nat} (hde : d ≤ e) {v : Value} {xs : List α} (hs : IsSl H (c d) v xs) : IsSl H (c e) v xs := by
  obtain ⟨ad, cap, h1, h2, h3, h4, h5⟩ := hs
  refine ⟨ad, cap, h1, h2, h3, h4, h5.imp_right ?_⟩
  rintro ⟨b, off, arr, T, fz, pre, cs, rest, e1, e2, e3, e4, e5⟩
  exact ⟨b, off, arr, T, fz, pre, cs, rest, e1, e2, e3, e4, h.reps_le hde e5⟩
def cLim (c : Nat → Codec α) (k : Nat) (h : Chain c k) : Codec α where
  size := k
  rep := fun H cs x => ∃ d, (c d).rep H cs x
  len := fun ⟨d, hr⟩ => by rw [(c d).len hr, h.size]
  mono := fun hle ⟨d, hr⟩ => ⟨d, (c d).mono hle hr⟩
  one := fun ⟨d, hr⟩ => (c d).one hr
theorem reps_lim (h : Chain c k) : ∀ {xs : List α} {cs : List Value}, (cLim c k h).reps H cs xs ↔ ∃ d, (c d).reps H cs xs
  | [], cs => ⟨fun hr => ⟨0, hr⟩, fun ⟨_, hr⟩ => hr⟩
  | x :: xs, cs => by
    constructor
    · rintro ⟨a, b, e, ⟨d, h1⟩, h2⟩
      obtain ⟨d', h2⟩ := (reps_lim h).1 h2
      exact ⟨max d d', a, b, e, h.le (Nat.le_max_left _ _) h1, h.reps_le (Nat.le_max_right _ _) h2⟩
    · rintro ⟨d, a, b, e, h1, h2⟩
      exact ⟨a, b, e, ⟨d, h1⟩, (reps_lim h).2 ⟨d, h2⟩⟩
theorem sl_lim (h : Chain c k) {v : Value} {xs : List α} : IsSl H (cLim c k h) v xs ↔ ∃ d, IsSl H (c d) v xs := by
  constructor
  · rintro ⟨ad, cap, h1, h2, h3, h4, h5⟩
    rcases h5 with h5 | ⟨b, off, arr, T, fz, pre, cs, rest, e1, e2, e3, e4, e5⟩
    · exact ⟨0, ad, cap, h1, h2, h3, h4, .inl h5⟩
    · obtain ⟨d, e5⟩ := (reps_lim h).1 e5
      exact ⟨d, ad, cap, h1, h2, h3, h4, .inr ⟨b, off, arr, T, fz, pre, cs, rest, e1, e2, e3, e4, e5⟩⟩
  · rintro ⟨d, ad, cap, h1, h2, h3, h4, h5⟩
    refine ⟨ad, cap, h1, h2, h3, h4, h5.imp_right ?_⟩
    rintro ⟨b, off, arr, T, fz, pre, cs, rest, e1, e2, e3, e4, e5⟩
    exact ⟨b, off, arr, T, fz, pre, cs, rest, e1, e2, e3, e4, (reps_lim h).2 ⟨d, e5⟩⟩
end chain
inductive Val where
  | nil
  | truth (b : Bool)
  | num (n : Int)
  | text (s : Str)
  | atom (s : Str)
  | set (l : List Val) (h : Int)
  | fn (ks vs : List Val) (h : Int)
instance : Inhabited Val := ⟨.nil⟩
def VRb (c : Codec Val) (H : View) (u : Value) : Val → Prop
  | .nil => u = .nilIface
  | .truth b => u = .iface 86 (.bool b)
  | .num n => u = .iface 87 (.int .i64 n) ∧ I64 n
  | .text s => u = .iface 89 (sv s)
  | .atom s => u = .iface 91 (sv s)
  | .set l h => ∃ b v fz, u = .iface 93 (.pointer (some ⟨b, 0, none⟩)) ∧ H b = some (.cells #[v, .int .i64 h] 96 fz) ∧ IsSl H c v l ∧ I64 h
  | .fn ks vs h => ∃ b v v' fz, u = .iface 97 (.pointer (some ⟨b, 0, none⟩)) ∧ H b = some (.cells #[v, v', .int .i64 h] 100 fz) ∧ IsSl H c v ks ∧ IsSl H c v' vs ∧ I64 h
theorem VRb.mono {c : Codec Val} {H K : View} (hle : View.le H K) {u : Value} : ∀ {x : Val}, VRb c H u x → VRb c K u x
  | .nil, h => h
  | .truth _, h => h
  | .num _, h => h
  | .text _, h => h
  | .atom _, h => h
  | .set _ _, ⟨b, v, fz, h1, h2, h3, h4⟩ => ⟨b, v, fz, h1, hle _ _ h2, h3.mono hle, h4⟩
  | .fn _ _ _, ⟨b, v, v', fz, h1, h2, h3, h4, h5⟩ => ⟨b, v, v', fz, h1, hle _ _ h2, h3.mono hle, h4.mono hle, h5⟩
theorem VRb.one {c : Codec Val} {H : View} {u : Value} : ∀ {x : Val}, VRb c H u x → u.oneCell' = true
  | .nil, h => by rw [show u = _ from h]; rfl
  | .truth _, h => by rw [show u = _ from h]; rfl
  | .num _, h => by rw [h.1]; rfl
  | .text _, h => by rw [show u = _ from h]; rfl
  | .atom _, h => by rw [show u = _ from h]; rfl
  | .set _ _, ⟨b, v, fz, h1, _⟩ => by rw [h1]; rfl
  | .fn _ _ _, ⟨b, v, v', fz, h1, _⟩ => by rw [h1]; rfl
theorem VRb.imp {c d : Codec Val} {H : View} {u : Value} (hcd : ∀ {v xs}, IsSl H c v xs → IsSl H d v xs) : ∀ {x : Val}, VRb c H u x → VRb d H u x
  | .nil, h => h
  | .truth _, h => h
  | .num _, h => h
  | .text _, h => h
  | .atom _, h => h
  | .set _ _, ⟨b, v, fz, h1, h2, h3, h4⟩ => ⟨b, v, fz, h1, h2, hcd h3, h4⟩
  | .fn _ _ _, ⟨b, v, v', fz, h1, h2, h3, h4, h5⟩ => ⟨b, v, v', fz, h1, h2, hcd h3, hcd h4, h5⟩
def cVn (c : Codec Val) : Codec Val where
  size := 1
  rep := fun H cs x => ∃ u, cs = [u] ∧ VRb c H u x
  len := fun ⟨u, h, _⟩ => by rw [h]; rfl
  mono := fun hle ⟨u, h, h'⟩ => ⟨u, h, h'.mono hle⟩
  one := fun ⟨u, h, h'⟩ w hw => by rw [h] at hw; rw [List.mem_singleton.1 hw]; exact h'.one
def cV0 : Codec Val where
  size := 1
  rep := fun _ _ _ => False
  len := fun h => h.elim
  mono := fun _ h => h.elim
  one := fun h => h.elim
def cVd : Nat → Codec Val
  | 0 => cV0
  | d + 1 => cVn (cVd d)
theorem reps_false {α : Type} {c d : Codec α} {H : View} (hs : c.size = d.size) (h : ∀ {cs x}, c.rep H cs x → d.rep H cs x) {v : Value} {xs : List α} (hsl : IsSl H c v xs) : IsSl H d v xs := by
  obtain ⟨ad, cap, h1, h2, h3, h4, h5⟩ := hsl
  refine ⟨ad, cap, h1, h2, h3, h4, h5.imp_right ?_⟩
  rintro ⟨b, off, arr, T, fz, pre, cs, rest, e1, e2, e3, e4, e5⟩
  refine ⟨b, off, arr, T, fz, pre, cs, rest, e1, e2, e3, e4, ?_⟩
  clear e3 h2 h1 h5
  induction xs generalizing cs with
  | nil => exact e5
  | cons x xs ih => obtain ⟨a, b, e, g1, g2⟩ := e5; exact ⟨a, b, e, h g1, ih _ g2⟩
theorem cVd_size : ∀ d, (cVd d).size = 1
  | 0 => rfl
  | _ + 1 => rfl
theorem cVd_up : ∀ {d : Nat} {H : View} {cs : List Value} {x : Val}, (cVd d).rep H cs x → (cVd (d + 1)).rep H cs x
  | 0, _, _, _, h => h.elim
  | d + 1, H, cs, x, ⟨u, h, h'⟩ => ⟨u, h, h'.imp fun hs => reps_false (by rw [cVd_size, cVd_size]) (fun hr => cVd_up hr) hs⟩
theorem chainV : Chain cVd 1 := ⟨cVd_size, cVd_up⟩
def cV : Codec Val := cLim cVd 1 chainV
theorem VRb_lim {H : View} {u : Value} {x : Val} : VRb cV H u x ↔ ∃ d, VRb (cVd d) H u x := by
  constructor
  · intro h
    cases x with
    | nil => exact ⟨0, h⟩
    | truth b => exact ⟨0, h⟩
    | num n => exact ⟨0, h⟩
    | text s => exact ⟨0, h⟩
    | atom s => exact ⟨0, h⟩
    | set l k =>
      obtain ⟨b, v, fz, h1, h2, h3, h4⟩ := h
      obtain ⟨d, h3⟩ := (sl_lim chainV).1 h3
      exact ⟨d, b, v, fz, h1, h2, h3, h4⟩
    | fn ks vs k =>
      obtain ⟨b, v, v', fz, h1, h2, h3, h4, h5⟩ := h
      obtain ⟨d, h3⟩ := (sl_lim chainV).1 h3
      obtain ⟨d', h4⟩ := (sl_lim chainV).1 h4
      exact ⟨max d d', b, v, v', fz, h1, h2, chainV.sl_le (Nat.le_max_left _ _) h3, chainV.sl_le (Nat.le_max_right _ _) h4, h5⟩
  · rintro ⟨d, h⟩
    exact h.imp fun hs => (sl_lim chainV).2 ⟨d, hs⟩
theorem cV_rep {H : View} {u : Value} {x : Val} : cV.rep H [u] x ↔ VRb cV H u x := by
  constructor
  · rintro ⟨d, h⟩
    cases d with
    | zero => exact h.elim
    | succ d =>
      obtain ⟨u', e, h⟩ := h
      cases e
      exact VRb_lim.2 ⟨d, h⟩
  · intro h
    obtain ⟨d, h⟩ := VRb_lim.1 h
    exact ⟨d + 1, u, rfl, h⟩
abbrev IsV (H : View) (u : Value) (x : Val) : Prop := VRb cV H u x
inductive RV where
  | mk (k i : Int) (t : Str) (ks vs : List RV)
namespace RV
def k : RV → Int | mk k _ _ _ _ => k
def i : RV → Int | mk _ i _ _ _ => i
def t : RV → Str | mk _ _ t _ _ => t
def ks : RV → List RV | mk _ _ _ ks _ => ks
def vs : RV → List RV | mk _ _ _ _ vs => vs
end RV
instance : Inhabited RV := ⟨.mk 0 0 [] [] []⟩
def RRb (c : Codec RV) (H : View) (cs : List Value) (x : RV) : Prop :=
  ∃ v v', cs = [.int .i64 x.k, .int .i64 x.i, sv x.t, v, v'] ∧ I64 x.k ∧ I64 x.i ∧ IsSl H c v x.ks ∧ IsSl H c v' x.vs
theorem IsSl.one' {α : Type} {c : Codec α} {H : View} {v : Value} {xs : List α} (h : IsSl H c v xs) : v.oneCell' = true := by obtain ⟨_, _, rfl, _⟩ := h; rfl
def cRn (c : Codec RV) : Codec RV where
  size := 5
  rep := fun H cs x => RRb c H cs x
  len := fun ⟨v, v', h, _⟩ => by rw [h]; rfl
  mono := fun hle ⟨v, v', h, a, b, p, q⟩ => ⟨v, v', h, a, b, p.mono hle, q.mono hle⟩
  one := fun ⟨v, v', h, a, b, p, q⟩ u hu => by
    rw [h] at hu
    simp only [List.mem_cons, List.not_mem_nil, or_false] at hu
    rcases hu with rfl | rfl | rfl | rfl | rfl
    · rfl
    · rfl
    · rfl
    · exact p.one'
    · exact q.one'
def cR0 : Codec RV where
  size := 5
  rep := fun _ _ _ => False
  len := fun h => h.elim
  mono := fun _ h => h.elim
  one := fun h => h.elim
def cRd : Nat → Codec RV
  | 0 => cR0
  | d + 1 => cRn (cRd d)
theorem cRd_size : ∀ d, (cRd d).size = 5
  | 0 => rfl
  | _ + 1 => rfl
theorem cRd_up : ∀ {d : Nat} {H : View} {cs : List Value} {x : RV}, (cRd d).rep H cs x → (cRd (d + 1)).rep H cs x
  | 0, _, _, _, h => h.elim
  | d + 1, H, cs, x, ⟨v, v', h, a, b, p, q⟩ => ⟨v, v', h, a, b, reps_false (by rw [cRd_size, cRd_size]) (fun hr => cRd_up hr) p, reps_false (by rw [cRd_size, cRd_size]) (fun hr => cRd_up hr) q⟩
theorem chainR : Chain cRd 5 := ⟨cRd_size, cRd_up⟩
def cR : Codec RV := cLim cRd 5 chainR
theorem cR_rep {H : View} {cs : List Value} {x : RV} : cR.rep H cs x ↔ RRb cR H cs x := by
  constructor
  · rintro ⟨d, h⟩
    cases d with
    | zero => exact h.elim
    | succ d =>
      obtain ⟨v, v', h, a, b, p, q⟩ := h
      exact ⟨v, v', h, a, b, (sl_lim chainR).2 ⟨d, p⟩, (sl_lim chainR).2 ⟨d, q⟩⟩
  · rintro ⟨v, v', h, a, b, p, q⟩
    obtain ⟨d, p⟩ := (sl_lim chainR).1 p
    obtain ⟨d', q⟩ := (sl_lim chainR).1 q
    exact ⟨max d d' + 1, v, v', h, a, b, chainR.sl_le (Nat.le_max_left _ _) p, chainR.sl_le (Nat.le_max_right _ _) q⟩
end Go.Vc
