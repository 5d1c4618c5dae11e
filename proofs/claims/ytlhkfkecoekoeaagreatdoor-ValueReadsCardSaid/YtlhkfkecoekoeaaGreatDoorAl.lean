/- A part of an owned slice that is looked at, and written, beside the whole: from a place on. 'clear' of it. -/
import Derived.Test.YtlhkfkecoekoeaaGreatDoorVx
set_option linter.unusedVariables false
set_option linter.unusedSimpArgs false
namespace Go.Vc
open Go
def OwnAl {α : Type} (c : Codec α) (v : Value) (off : Int) (u : Value) : Prop :=
  ∃ b n cap, v = .slice (some ⟨b, 0, none⟩) n cap ∧ 0 ≤ off ∧ off < n ∧ n ≤ cap ∧ u = .slice (some ⟨b, off.toNat * c.size, none⟩) (n - off.toNat) (cap - off.toNat)
section
variable {P : Program} {n : Nat} {l : List (Nat × Value)} {C : World → Prop} {dst : Option Tmp} {ty : TypeId} {pos : String} {af : Array Edge} {gd : Option (Nat × Bool)} {H : View} {α : Type} {c : Codec α} {T : TypeId} {fp : Seg} {t e : TypeId} {x y : Operand} {v u : Value} {xs : List α} {k : IntKind} {i off : Int}
theorem ex_slice_al (ht : P.underlying t = some (.slice e)) (hsz : ∀ w, (sizeOf e).run P w = .ok c.size w) (hx : opv l x = some v) (hy : opv l y = some (.int k i)) (hs : OwnSl H c T v xs fp) (h : 0 ≤ i ∧ i < xs.length) :
    ∃ u, OwnAl c v i u ∧ Exv P n l C ⟨dst, .slice t x (some y) none none, ty, pos, af, gd⟩ u := by
  rcases hs with ⟨rfl, rfl, _⟩ | ⟨b, cap, arr, cs, rest, rfl, rfl, e3, e4, e5, e6, e7⟩
  · simp at h; omega
  · refine ⟨_, ⟨b, _, cap, rfl, h.1, h.2, e5, rfl⟩, fun w _ a ha => ?_⟩
    have hb1 := fun w => run_bound (P := P) (k := k) (y := xs.length) (code := .sliceB) (w := w) h.1 (show i ≤ (xs.length : Int) by omega)
    have hb2 : ¬ cap - i.toNat = 0 := by omega
    simp [execOp, Instr.sliceAt, Instr.slice, ha.eval hx, ha.eval hy, run_underlying ht, Instr.sliceBounds, hb1, hsz, hb2, Addr.add_lit]
    intro hc; omega
theorem ex_len_al (ht : P.underlying t = some (.slice e)) (hx : opv l x = some u) (hs : OwnSl H c T v xs fp) (ha : OwnAl c v off u) :
    Exv P n l C ⟨dst, .call { callee := .builtin .len, args := #[x], argTypes := #[t] }, ty, pos, af, gd⟩ (.int .i64 ((xs.length : Int) - off)) := by
  obtain ⟨b, m, cap, rfl, h1, h2, h3, rfl⟩ := ha
  rcases hs with ⟨e, _⟩ | ⟨b', cap', arr, cs, rest, e, rfl, _⟩
  · cases e
  · cases e
    have := ex_len (C := C) (dst := dst) (ty := ty) (pos := pos) (af := af) (gd := gd) (n := n) ht hx
    have e2 : ((xs.length - off.toNat : Nat) : Int) = (xs.length : Int) - off := by omega
    rw [e2] at this
    exact this
theorem ex_index_al (ht : P.underlying t = some (.slice e)) (hsz : ∀ w, (sizeOf e).run P w = .ok c.size w) (hx : opv l x = some u) (hy : opv l y = some (.int k i)) (hs : OwnSl H c T v xs fp) (ha : OwnAl c v off u) (h : 0 ≤ i ∧ off + i < xs.length) :
    ∃ p, OwnPt c v (off + i).toNat p ∧ Exv P n l C ⟨dst, .indexAddr t x y, ty, pos, af, gd⟩ p := by
  obtain ⟨b, m, cap, rfl, h1, h2, h3, rfl⟩ := ha
  rcases hs with ⟨e, _⟩ | ⟨b', cap', arr, cs, rest, e, rfl, _⟩
  · cases e
  · cases e
    refine ⟨.pointer (some ⟨b, (off + i).toNat * c.size, none⟩), ⟨b, _, _, rfl, rfl⟩, fun w _ a ha => ?_⟩
    have hi : 0 ≤ i ∧ i < ((xs.length - off.toNat : Nat) : Int) := by omega
    have e3 : off.toNat * c.size + i.toNat * c.size = (off + i).toNat * c.size := by rw [← Nat.add_mul]; congr 1; omega
    simp [execOp, Instr.indexAt, ha.eval hx, ha.eval hy, asIntOf, run_underlying ht, hi, hsz, Addr.add_lit, e3]
end
section
variable {P : Program} {ops : Array Oper} {Q : Exit → Act → World → Prop} {n : Nat} {l : List (Nat × Value)} {rest : List Oper} {w0 w : World} {H : View} {L : Seg} {ty : TypeId} {pos : String} {af : Array Edge}
theorem WL.turn0' {o : Oper} {v : Value} {w' : World} (hg : o.guard = none) (hd : o.dst = none) (he : ∀ a, Fr n l a → (execOp a.eval o).run P w = .ok (.value v) w')
    (k : WL P ops Q n l rest w') : WL P ops Q n l (o :: rest) w := fun a ha => wpList_plain hg fun K hK => by
  unfold Oper.wp
  rw [he a ha, Oper.upon_value, hd]
  exact hK _ _ (k _ ha)
theorem WL.clear_al {α : Type} {c : Codec α} {fp : Seg} {t e T : TypeId} {x : Operand} {v u z : Value} {xs : List α} {z0 : α} {off : Int} (ht : P.underlying t = some (.slice e)) (hz : ∀ w, (zeroValue e).run P w = .ok z w) (hz0 : c.rep H z.cells.toList z0) (h1 : c.size = 1)
    (hx : opv l x = some u) (hw : St w0 H (fp ++ L) w) (hs : OwnSl H c T v xs fp) (ha : OwnAl c v off u)
    (k : ∀ w' fp', OwnSl H c T v (xs.take off.toNat ++ List.replicate (xs.length - off.toNat) z0) fp' → St w0 H (fp' ++ L) w' → WL P ops Q n l rest w') :
    WL P ops Q n l (⟨none, .call { callee := .builtin .clear, args := #[x], argTypes := #[t] }, ty, pos, af, none⟩ :: rest) w := by
  obtain ⟨b, m, cap, rfl, h2, h3, h4, rfl⟩ := ha
  rcases hs with ⟨e', _⟩ | ⟨b', cap', arr, cs, rst, e', rfl, e3, e4, e5, e6, e7⟩
  · cases e'
  · cases e'
    rw [h1, Nat.mul_one] at e4
    have hg := hw.own (b, .cells arr T (0, 0)) (by simp)
    have hzl := c.len hz0
    rw [h1] at hzl
    obtain ⟨z1, hz1⟩ : ∃ z1, z.cells = #[z1] := by
      match hh : z.cells.toList, hzl with
      | [q], _ => exact ⟨q, by apply Array.ext'; rw [hh]⟩
    have hcl := Codec.reps_length e7
    rw [h1, Nat.mul_one] at hcl
    have hzc : ∀ q, (Builtin.zeroCells z.cells q).toList = List.replicate q z1 := by
      intro q
      rw [hz1]
      apply List.ext_getElem
      · simp [Builtin.zeroCells]
      · intro j a1 a2; simp [Builtin.zeroCells, Nat.mod_one]
    have hone : ∀ u ∈ (Builtin.zeroCells z.cells (xs.length - off.toNat)).toList, u.oneCell' = true := by
      intro u hu
      rw [hzc] at hu
      have := List.eq_of_mem_replicate hu
      subst this
      exact c.one hz0 u (by rw [hz1]; simp)
    have hst := run_storeCells_at P b off.toNat T (Builtin.zeroCells z.cells (xs.length - off.toNat)).toList 0 arr w hg (by rw [hzc]; simp; omega) hone
    simp only [Nat.add_zero] at hst
    have hne : ¬ (xs.length - off.toNat = 0) := by omega
    have hrep : ∀ q, c.reps H (List.replicate q z1) (List.replicate q z0) := by
      intro q
      induction q with
      | zero => rfl
      | succ q ih => exact ⟨[z1], _, rfl, by rw [hz1] at hz0; exact hz0, ih⟩
    have e7' := e7
    rw [← List.take_append_drop off.toNat xs] at e7'
    obtain ⟨a', b', f1, f2, f3⟩ := Codec.reps_split e7'
    have hal := Codec.reps_length f2
    rw [h1, Nat.mul_one, List.length_take, Nat.min_eq_left (by omega)] at hal
    have hbl := Codec.reps_length f3
    rw [h1, Nat.mul_one, List.length_drop] at hbl
    refine WL.turn0' (v := .tuple #[]) rfl rfl (w' := w.setRow b (arr.toList.take off.toNat ++ (Builtin.zeroCells z.cells (xs.length - off.toNat)).toList ++ arr.toList.drop (off.toNat + (Builtin.zeroCells z.cells (xs.length - off.toNat)).toList.length)).toArray) (fun a ha => ?_) (k _ _ (.inr ⟨b, cap, _, a' ++ List.replicate (xs.length - off.toNat) z1, rst, ?_, rfl, ?_, ?_, ?_, e6, Codec.reps_append f2 (hrep _)⟩)
      (hw.write (o' := .cells (arr.toList.take off.toNat ++ (Builtin.zeroCells z.cells (xs.length - off.toNat)).toList ++ arr.toList.drop (off.toNat + (Builtin.zeroCells z.cells (xs.length - off.toNat)).toList.length)).toArray T (0, 0)) rfl rfl rfl (by simp [World.setRow]) (setRow_heap w b arr _ T _ hg) (fun k hk => setRow_other w b k _ hk)))
    · simp [execOp, resolve, invoke, builtin, Builtin.clear_, ha.eval hx, run_underlying ht, hz, hne, h1, hst]
    · rw [List.length_append, List.length_take, List.length_replicate]; congr 1; omega
    · have t1 : arr.toList.take off.toNat = a' := by rw [e3, f1, List.append_assoc, ← hal, List.take_left]
      have t2 : arr.toList.drop (off.toNat + (xs.length - off.toNat)) = rst := by rw [e3, show off.toNat + (xs.length - off.toNat) = cs.length by omega, List.drop_left]
      simp only [hzc, List.length_replicate, t1, t2]
    · rw [hzc, h1]
      simp only [List.size_toArray, List.length_append, List.length_take, List.length_replicate, List.length_drop, Array.length_toList]
      omega
    · rw [List.length_append, List.length_take, List.length_replicate]; omega
end
end Go.Vc
