/- Elements of several cells in owned slices: their fields, loads and stores. -/
import Derived.Test.YtlhkfkecoekoeaaGreatDoorDraw
set_option linter.unusedVariables false
namespace Go.Vc
open Go
section
variable {P : Program} {ops : Array Oper} {Q : Exit → Act → World → Prop} {n : Nat} {l : List (Nat × Value)} {rest : List Oper} {w0 w : World} {H : View} {L : Seg} {C : World → Prop} {dst : Option Tmp} {ty : TypeId} {pos : String} {af : Array Edge} {gd : Option (Nat × Bool)}
theorem exNow {D : Value → Prop} {o : Oper} {fp : Seg} (h : ∃ u, D u ∧ ∀ K L, View.le H K → Exv P n l (St w0 K (fp ++ L)) o u) : ∃ u, D u ∧ Exv P n l (St w0 H (fp ++ L)) o u := let ⟨u, h1, h2⟩ := h; ⟨u, h1, h2 H L (View.le.refl _)⟩
theorem ex_load_own_agg {σ : Type} [Inhabited σ] {c : Codec σ} {T : TypeId} {fp : Seg} {t : TypeId} {x : Operand} {v p : Value} {xs : List σ} {i : Int}
    (hag : ∀ w, (isAgg t).run P w = .ok true w) (hsz : ∀ w, (sizeOf t).run P w = .ok c.size w) (hx : opv l x = some p) (hs : OwnSl H c T v xs fp) (hp : OwnPt c v i.toNat p) (h : 0 ≤ i ∧ i < xs.length) :
    ∃ u, (∃ cs, u = .agg cs.toArray ∧ c.rep H cs (ix xs i)) ∧ ∀ K L, View.le H K → Exv P n l (St w0 K (fp ++ L)) ⟨dst, .load t x, ty, pos, af, gd⟩ u := by
  rcases hs with ⟨rfl, rfl, rfl⟩ | ⟨b, cap, arr, cs, rst, rfl, rfl, e3, e4, e5, e6, e7⟩
  · simp at h; omega
  · obtain ⟨b', n', cap', hv, rfl⟩ := hp
    cases hv
    obtain ⟨a', m, b', f1, f2, f3, f4, f5⟩ := Codec.reps_get e7 (ix_get h.1 h.2)
    refine ⟨_, ⟨m, rfl, f3⟩, fun K L _ w hw a ha => ?_⟩
    have hg := hw.own (b, .cells arr T (0, 0)) (by simp)
    have hm := c.len f3
    have hd : (arr.toList.drop (i.toNat * c.size)).take c.size = m := by
      rw [e3, f1, List.append_assoc, ← f2, List.drop_left, List.append_assoc, ← hm, List.take_left]
    simp [execOp, Instr.loadAt, Instr.sureAddr, ha.eval hx, loadVar, hag, hsz, run_loadCells_block hg hd hm]
theorem set_split {α : Type} {xs : List α} {i : Nat} (h : i < xs.length) (z : α) : xs.set i z = xs.take i ++ ([z] ++ xs.drop (i + 1)) := by
  rw [List.set_eq_take_append_cons_drop, if_pos h]; rfl
theorem WL.store_own_agg {σ : Type} [Inhabited σ] {c : Codec σ} {T : TypeId} {fp : Seg} {t : TypeId} {x y : Operand} {v p u : Value} {xs : List σ} {i : Int} {z : σ} {m' : List Value}
    (hsz : ∀ w, (sizeOf t).run P w = .ok c.size w) (hx : opv l x = some p) (hy : opv l y = some u) (hu : u.cells.toList = m') (hone : ones m') (hr : c.rep H m' z) (hw : St w0 H (fp ++ L) w) (hs : OwnSl H c T v xs fp) (hp : OwnPt c v i.toNat p) (h : 0 ≤ i ∧ i < xs.length)
    (k : ∀ w' fp', OwnSl H c T v (xs.set i.toNat z) fp' → St w0 H (fp' ++ L) w' → WL P ops Q n l rest w') : WL P ops Q n l (⟨none, .store t x y, ty, pos, af, none⟩ :: rest) w := by
  rcases hs with ⟨rfl, rfl, rfl⟩ | ⟨b, cap, arr, cs, rst, rfl, rfl, e3, e4, e5, e6, e7⟩
  · simp at h; omega
  · obtain ⟨b', n', cap', hv, rfl⟩ := hp
    cases hv
    have hlt : i.toNat < xs.length := by omega
    obtain ⟨a', m, b', f1, f2, f3, f4, f5⟩ := Codec.reps_get e7 (ix_get h.1 h.2)
    have hm := c.len f3
    have hm' := c.len hr
    have hsp : arr.toList = a' ++ (m ++ (b' ++ rst)) := by rw [e3, f1]; simp
    obtain ⟨w', hst, hS'⟩ := run_store_block (P := P) (t := t) (off := i.toNat * c.size) (arr' := (a' ++ (m' ++ (b' ++ rst))).toArray) (by rw [hm']; exact hsz) hu hone hsp f2 (by omega) rfl hw
    refine WL.turn0 (w' := w') rfl rfl (fun a ha => ?_) (k w' _ (.inr ⟨b, cap, _, a' ++ (m' ++ b'), rst, by rw [List.length_set], rfl, by simp, ?_, by rw [List.length_set]; exact e5, e6, ?_⟩) hS')
    · simp [execOp, Instr.storeAt, Instr.sureAddr, ha.eval hx, ha.eval hy, hst]
    · have hq := congrArg List.length hsp
      simp at hq ⊢; omega
    · rw [set_split hlt]
      exact Codec.reps_append f4 (Codec.reps_append (Codec.reps_single.2 hr) f5)
end
end Go.Vc
