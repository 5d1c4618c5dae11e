/- Elements of several cells in owned slices: their fields, loads and stores. -/
import Derived.Test.YtmdoicffgeihcaaGreatDoorDraw
set_option linter.unusedVariables false
namespace Go.Vc
open Go
/-- The place of a part of an element of an owned slice. -/
def OwnPart {α : Type} (c : Codec α) (v : Value) (i off : Nat) (p : Value) : Prop := ∃ b n cap, v = .slice (some ⟨b, 0, none⟩) n cap ∧ p = .pointer (some ⟨b, i * c.size + off, none⟩)
/-- A part that can be written. -/
def PartSet {σ φ : Type} (c : Codec σ) (off : Nat) (d : Codec φ) (set : σ → φ → σ) : Prop := ∀ H cs x m y, c.rep H cs x → d.rep H m y → c.rep H (cs.take off ++ (m ++ cs.drop (off + d.size))) (set x y)
theorem PartSet.fst {α β : Type} {c : Codec α} {d : Codec β} : PartSet (cPair c d) 0 c (fun x y => (y, x.2)) := fun H cs x m y ⟨a, b, e, h1, h2⟩ hm => by
  subst e
  refine ⟨m, b, ?_, hm, h2⟩
  rw [List.take_zero, List.nil_append, Nat.zero_add, ← c.len h1, List.drop_left]
theorem PartSet.snd {α β : Type} {c : Codec α} {d : Codec β} : PartSet (cPair c d) c.size d (fun x y => (x.1, y)) := fun H cs x m y ⟨a, b, e, h1, h2⟩ hm => by
  subst e
  refine ⟨a, m, ?_, h1, hm⟩
  rw [← c.len h1, List.take_left, List.drop_eq_nil_of_le (by rw [List.length_append, ← d.len h2]; exact Nat.le_refl _), List.append_nil]
theorem PartSet.next {α β φ : Type} {c : Codec α} {d : Codec β} {f : Codec φ} {off : Nat} {set : β → φ → β} (h : PartSet d off f set) : PartSet (cPair c d) (c.size + off) f (fun x y => (x.1, set x.2 y)) := fun H cs x m y ⟨a, b, e, h1, h2⟩ hm => by
  subst e
  refine ⟨a, _, ?_, h1, h H b x.2 m y h2 hm⟩
  have hl := c.len h1
  rw [List.take_append, List.take_of_length_le (by omega), hl, Nat.add_sub_cancel_left, List.drop_append, List.drop_eq_nil_of_le (by omega), List.nil_append, hl, List.append_assoc]
  congr 3
  congr 1; omega
section
variable {P : Program} {ops : Array Oper} {Q : Exit → Act → World → Prop} {n : Nat} {l : List (Nat × Value)} {rest : List Oper} {w0 w : World} {H : View} {L : Seg} {C : World → Prop} {dst : Option Tmp} {ty : TypeId} {pos : String} {af : Array Edge} {gd : Option (Nat × Bool)}
theorem exNow {D : Value → Prop} {o : Oper} {fp : Seg} (h : ∃ u, D u ∧ ∀ K L, View.le H K → Exv P n l (St w0 K (fp ++ L)) o u) : ∃ u, D u ∧ Exv P n l (St w0 H (fp ++ L)) o u := let ⟨u, h1, h2⟩ := h; ⟨u, h1, h2 H L (View.le.refl _)⟩
theorem ex_fieldAddr_own {σ : Type} {c : Codec σ} {s : TypeId} {x : Operand} {f k i : Nat} {fields : Array Field} {fd : Field} {v p : Value} (hs : P.underlying s = some (.struct fields)) (hf : fields[f]? = some fd)
    (hsz : ∀ w, (sizeOf fd.type).run P w = .ok (k + 1) w) (hx : opv l x = some p) (hp : OwnPt c v i p) : ∃ q, OwnPart c v i fd.offset q ∧ Exv P n l C ⟨dst, .fieldAddr s x f, ty, pos, af, gd⟩ q := by
  obtain ⟨b, m, cap, rfl, rfl⟩ := hp
  refine ⟨_, ⟨b, m, cap, rfl, rfl⟩, fun w _ a ha => ?_⟩
  simp [execOp, Instr.fieldAt, Instr.sureAddr, ha.eval hx, run_underlying hs, hf, fieldPlace, hsz, Addr.add_lit]
/-- A field of an element of an owned slice. -/
theorem ex_load_ownpart {σ φ : Type} [Inhabited σ] {c : Codec σ} {d : Codec φ} {proj : σ → φ} {T : TypeId} {fp : Seg} {t : TypeId} {x : Operand} {v p : Value} {xs : List σ} {i : Int} {off : Nat}
    (hag : ∀ w, (isAgg t).run P w = .ok false w) (h1 : d.size = 1) (hx : opv l x = some p) (hs : OwnSl H c T v xs fp) (hp : OwnPart c v i.toNat off p) (h : 0 ≤ i ∧ i < xs.length) (hpart : Part c off d proj) :
    ∃ u, d.rep H [u] (proj (ix xs i)) ∧ ∀ K L, View.le H K → Exv P n l (St w0 K (fp ++ L)) ⟨dst, .load t x, ty, pos, af, gd⟩ u := by
  rcases hs with ⟨rfl, rfl, rfl⟩ | ⟨b, cap, arr, cs, rst, rfl, rfl, e3, e4, e5, e6, e7⟩
  · simp at h; omega
  · obtain ⟨b', n', cap', hv, rfl⟩ := hp
    cases hv
    obtain ⟨a', m, b', f1, f2, f3, f4, f5⟩ := Codec.reps_get e7 (ix_get h.1 h.2)
    obtain ⟨a2, m2, b2, g1, g2, g3⟩ := hpart H m _ f3
    have hl := d.len g3
    rw [h1] at hl
    match m2, hl with
    | [u], _ =>
      refine ⟨u, g3, fun K L _ w hw a ha => ?_⟩
      have hg := hw.own (b, .cells arr T (0, 0)) (by simp)
      have hcell : w.cell? ⟨b, i.toNat * c.size + off, none⟩ = some u := by
        simp only [World.cell?, hg]
        simp only [Option.isSome_none, Bool.false_eq_true, if_false]
        rw [← Array.getElem?_toList, e3, f1, g1]
        simp only [List.append_assoc]
        rw [List.getElem?_append_right (by omega), f2, List.getElem?_append_right (by omega), g2]
        simp
      simp [execOp, Instr.loadAt, Instr.sureAddr, ha.eval hx, run_load_cell hag hcell]
/-- A whole element. -/
theorem ex_load_own_agg {σ : Type} [Inhabited σ] {c : Codec σ} {T : TypeId} {fp : Seg} {t : TypeId} {x : Operand} {v p : Value} {xs : List σ} {i : Int}
    (hag : ∀ w, (isAgg t).run P w = .ok true w) (hsz : ∀ w, (sizeOf t).run P w = .ok c.size w) (hx : opv l x = some p) (hs : OwnSl H c T v xs fp) (hp : OwnPt c v i.toNat p) (h : 0 ≤ i ∧ i < xs.length) :
    ∃ u, (∃ cs, u = .agg cs.toArray ∧ c.rep H cs (ix xs i)) ∧ ∀ K L, View.le H K → Exv P n l (St w0 K (fp ++ L)) ⟨dst, .load t x, ty, pos, af, gd⟩ u := by
  rcases hs with ⟨rfl, rfl, rfl⟩ | ⟨b, cap, arr, cs, rst, rfl, rfl, e3, e4, e5, e6, e7⟩
  · simp at h; omega
  · obtain ⟨b', n', cap', hv, rfl⟩ := hp
    cases hv
    obtain ⟨a', m, b', f1, f2, f3, f4, f5⟩ := Codec.reps_get e7 (ix_get h.1 h.2)
    refine ⟨_, ⟨m, rfl, f3⟩, fun K L _ w hw a ha => ?_⟩
    have hg := hw.own (b, .cells arr T (0, 0)) (by simp)
    have hm := c.len f3
    have hd : (arr.toList.drop (i.toNat * c.size)).take c.size = m := by
      rw [e3, f1, List.append_assoc, ← f2, List.drop_left, List.append_assoc, ← hm, List.take_left]
    simp [execOp, Instr.loadAt, Instr.sureAddr, ha.eval hx, loadVar, hag, hsz, run_loadCells_block hg hd hm]
theorem set_split {α : Type} {xs : List α} {i : Nat} (h : i < xs.length) (z : α) : xs.set i z = xs.take i ++ ([z] ++ xs.drop (i + 1)) := by
  rw [List.set_eq_take_append_cons_drop, if_pos h]; rfl
/-- A store of a whole element. -/
theorem WL.store_own_agg {σ : Type} [Inhabited σ] {c : Codec σ} {T : TypeId} {fp : Seg} {t : TypeId} {x y : Operand} {v p u : Value} {xs : List σ} {i : Int} {z : σ} {m' : List Value}
    (hsz : ∀ w, (sizeOf t).run P w = .ok c.size w) (hx : opv l x = some p) (hy : opv l y = some u) (hu : u.cells.toList = m') (hone : ones m') (hr : c.rep H m' z) (hw : St w0 H (fp ++ L) w) (hs : OwnSl H c T v xs fp) (hp : OwnPt c v i.toNat p) (h : 0 ≤ i ∧ i < xs.length)
    (k : ∀ w' fp', OwnSl H c T v (xs.set i.toNat z) fp' → St w0 H (fp' ++ L) w' → WL P ops Q n l rest w') : WL P ops Q n l (⟨none, .store t x y, ty, pos, af, none⟩ :: rest) w := by
  rcases hs with ⟨rfl, rfl, rfl⟩ | ⟨b, cap, arr, cs, rst, rfl, rfl, e3, e4, e5, e6, e7⟩
  · simp at h; omega
  · obtain ⟨b', n', cap', hv, rfl⟩ := hp
    cases hv
    have hlt : i.toNat < xs.length := by omega
    obtain ⟨a', m, b', f1, f2, f3, f4, f5⟩ := Codec.reps_get e7 (ix_get h.1 h.2)
    have hm := c.len f3
    have hm' := c.len hr
    have hsp : arr.toList = a' ++ (m ++ (b' ++ rst)) := by rw [e3, f1]; simp
    obtain ⟨w', hst, hS'⟩ := run_store_block (P := P) (t := t) (off := i.toNat * c.size) (arr' := (a' ++ (m' ++ (b' ++ rst))).toArray) (by rw [hm']; exact hsz) hu hone hsp f2 (by omega) rfl hw
    refine WL.turn0 (w' := w') rfl rfl (fun a ha => ?_) (k w' _ (.inr ⟨b, cap, _, a' ++ (m' ++ b'), rst, by rw [List.length_set], rfl, by simp, ?_, by rw [List.length_set]; exact e5, e6, ?_⟩) hS')
    · simp [execOp, Instr.storeAt, Instr.sureAddr, ha.eval hx, ha.eval hy, hst]
    · have hq := congrArg List.length hsp
      simp at hq ⊢; omega
    · rw [set_split hlt]
      exact Codec.reps_append f4 (Codec.reps_append (Codec.reps_single.2 hr) f5)
/-- A store to a field of an element. -/
theorem WL.store_ownpart {σ φ : Type} [Inhabited σ] {c : Codec σ} {d : Codec φ} {set : σ → φ → σ} {off : Nat} {T : TypeId} {fp : Seg} {t : TypeId} {x y : Operand} {v p u : Value} {xs : List σ} {i : Int} {z : φ}
    (hsz : ∀ w, (sizeOf t).run P w = .ok d.size w) (h1 : d.size = 1) (hx : opv l x = some p) (hy : opv l y = some u) (hr : d.rep H [u] z) (hoff : off + d.size ≤ c.size) (hpart : PartSet c off d set) (hw : St w0 H (fp ++ L) w) (hs : OwnSl H c T v xs fp) (hp : OwnPart c v i.toNat off p) (h : 0 ≤ i ∧ i < xs.length)
    (k : ∀ w' fp', OwnSl H c T v (xs.set i.toNat (set (ix xs i) z)) fp' → St w0 H (fp' ++ L) w' → WL P ops Q n l rest w') : WL P ops Q n l (⟨none, .store t x y, ty, pos, af, none⟩ :: rest) w := by
  have hone := d.one hr u (by simp)
  rcases hs with ⟨rfl, rfl, rfl⟩ | ⟨b, cap, arr, cs, rst, rfl, rfl, e3, e4, e5, e6, e7⟩
  · simp at h; omega
  · obtain ⟨b', n', cap', hv, rfl⟩ := hp
    cases hv
    have hlt : i.toNat < xs.length := by omega
    obtain ⟨a', m, b', f1, f2, f3, f4, f5⟩ := Codec.reps_get e7 (ix_get h.1 h.2)
    have hm := c.len f3
    have hnew := hpart H m _ [u] z f3 hr
    have hml : m = m.take off ++ ((m.drop off).take d.size ++ m.drop (off + d.size)) := by
      conv => lhs; rw [← List.take_append_drop off m, ← List.take_append_drop d.size (m.drop off), List.drop_drop]
    have hsp : arr.toList = (a' ++ m.take off) ++ ((m.drop off).take d.size ++ (m.drop (off + d.size) ++ (b' ++ rst))) := by
      rw [e3, f1]; conv => lhs; rw [hml]
      simp only [List.append_assoc]
    obtain ⟨w', hst, hS'⟩ := run_store_block (P := P) (t := t) (off := i.toNat * c.size + off) (v := u) (cs := [u]) (arr' := ((a' ++ m.take off) ++ ([u] ++ (m.drop (off + d.size) ++ (b' ++ rst)))).toArray) (by rw [h1] at hsz; exact hsz) (congrArg Array.toList (cells_one hone)) ⟨hone, trivial⟩ hsp (by rw [List.length_append, f2, List.length_take]; omega) (by rw [List.length_take, List.length_drop, h1]; simp; omega) rfl hw
    refine WL.turn0 (w' := w') rfl rfl (fun a ha => ?_) (k w' _ (.inr ⟨b, cap, _, a' ++ ((m.take off ++ ([u] ++ m.drop (off + d.size))) ++ b'), rst, by rw [List.length_set], rfl, by simp, ?_, by rw [List.length_set]; exact e5, e6, ?_⟩) hS')
    · simp [execOp, Instr.storeAt, Instr.sureAddr, ha.eval hx, ha.eval hy, hst]
    · have hq := congrArg List.length hsp
      simp [h1] at hq ⊢; omega
    · rw [set_split hlt]
      exact Codec.reps_append f4 (Codec.reps_append (Codec.reps_single.2 hnew) f5)
end
end Go.Vc
