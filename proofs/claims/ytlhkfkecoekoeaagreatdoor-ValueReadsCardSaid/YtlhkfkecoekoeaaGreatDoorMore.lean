/- More rules: regions whose effects stand in several orders; slices of structs made; heads of owned slices; structs out of own blocks in regions that draw and turn. -/
import Derived.Test.YtlhkfkecoekoeaaGreatDoorMap
set_option linter.unusedVariables false
set_option linter.unusedSimpArgs false
namespace Go.Vc
open Go
theorem cells_int {k : IntKind} {x : Int} : (Value.int k x).cells = #[.int k x] := rfl
theorem cells_ptr {x : Option Addr} : (Value.pointer x).cells = #[.pointer x] := rfl
theorem cells_bool {x : Bool} : (Value.bool x).cells = #[.bool x] := rfl
section
variable {P : Program} {ops : Array Oper} {Q : Exit → Act → World → Prop} {n : Nat} {l : List (Nat × Value)} {rest : List Oper} {w0 w : World} {H : View} {L : Seg} {C : World → Prop} {dst : Option Tmp} {ty : TypeId} {pos : String} {af : Array Edge} {gd : Option (Nat × Bool)}
theorem ex_slice_hi_own2 {α : Type} {c : Codec α} {T : TypeId} {fp : Seg} {t e : TypeId} {x y : Operand} {v : Value} {xs : List α} {k : IntKind} {hi : Int} (ht : P.underlying t = some (.slice e)) (hsz : ∀ w, (sizeOf e).run P w = .ok c.size w) (hx : opv l x = some v)
    (hy : opv l y = some (.int k hi)) (hs : OwnSl H c T v xs fp) (h : 0 ≤ hi ∧ hi ≤ xs.length) : ∃ u, (SrcOf c H P fp u (xs.take hi.toNat) ∧ OwnSl H c T u (xs.take hi.toNat) fp) ∧ Exv P n l C ⟨dst, .slice t x none (some y) none, ty, pos, af, gd⟩ u := by
  obtain ⟨ad, cap, hv, h1, h2⟩ := own_sub (P := P) hs (lo := 0) (hi := hi.toNat) (by omega) (by omega)
  refine ⟨.slice (if cap = 0 then ad else ad.map (·.add (0 * c.size))) (hi.toNat - 0) (cap - 0), ⟨fun {w0 w L} hw => by have := h2 hw; rwa [List.drop_zero] at this, ?_⟩, fun w _ a ha => ?_⟩
  · rcases hs with ⟨rfl, rfl, rfl⟩ | ⟨b, cap', arr, cs, rst, rfl, rfl, e3, e4, e5, e6, e7⟩
    · cases hv
      have : hi.toNat = 0 := by simp at h; omega
      rw [this]
      exact .inl ⟨by simp, rfl, rfl⟩
    · cases hv
      have hle : hi.toNat ≤ xs.length := by omega
      rw [← List.take_append_drop hi.toNat xs] at e7
      obtain ⟨a', b', f1, f2, f3⟩ := Codec.reps_split e7
      refine .inr ⟨b, cap, arr, a', b' ++ rst, ?_, rfl, by rw [e3, f1, List.append_assoc], e4, by rw [List.length_take]; omega, e6, f2⟩
      rw [List.length_take, Nat.min_eq_left hle]
      split <;> simp [Addr.add_lit]
  · subst hv
    have hb := fun w => run_bound (P := P) (k := k) (y := cap) (code := .sliceAcap) (w := w) h.1 (show hi ≤ (cap : Int) by omega)
    simp [execOp, Instr.sliceAt, Instr.slice, ha.eval hx, ha.eval hy, run_underlying ht, Instr.sliceBounds, hb, hsz]
theorem made_reps {α : Type} {c : Codec α} {zs : Array Value} {z0 : α} (hz0 : c.rep H zs.toList z0) : ∀ q, c.reps H (madeCells zs (q * c.size)).toList (List.replicate q z0) := by
  have hl : zs.size = c.size := by have := c.len hz0; simpa using this
  intro q
  induction q with
  | zero => show _ = _; simp [madeCells]
  | succ q ih =>
    have : (madeCells zs ((q + 1) * c.size)).toList = (madeCells zs (q * c.size)).toList ++ zs.toList := by
      apply List.ext_getElem?
      intro j
      by_cases h1 : j < q * c.size
      · rw [List.getElem?_append_left (by simp [madeCells]; omega)]
        have h2 : j < (q + 1) * c.size := by rw [Nat.add_mul]; omega
        simp [madeCells, h1, h2]
      · rw [List.getElem?_append_right (by simp [madeCells]; omega)]
        by_cases h2 : j < (q + 1) * c.size
        · have h3 : j - q * c.size < c.size := by rw [Nat.add_mul] at h2; omega
          have h4 : j % zs.size = j - q * c.size := by
            rw [hl]
            have : j = (j - q * c.size) + q * c.size := by omega
            conv => lhs; rw [this]
            rw [Nat.add_mul_mod_self_right, Nat.mod_eq_of_lt h3]
          have h5 : j - q * c.size < zs.size := by omega
          simp [madeCells, h2, h4, h5]
        · have h3 : ¬ j - q * c.size < zs.size := by rw [Nat.add_mul] at h2; omega
          simp [madeCells, h2]
          omega
    rw [this, List.replicate_succ']
    exact Codec.reps_append ih (Codec.reps_single.2 hz0)
theorem WL.makes {α : Type} {c : Codec α} {d : Nat} {t e : TypeId} {z : Value} {bytes : Nat} {x y : Operand} {m : Int} {z0 : α} {kk : IntKind} (hdn : Nat.blt d n = true) (ht : P.underlying t = some (.slice e))
    (hi : (P.info? e).map (fun i => (i.zero, i.size, i.bytes)) = some (some z, c.size, bytes)) (hz0 : c.rep H z.cells.toList z0) (hx : opv l x = some (.int kk m)) (hy : opv l y = some (.int kk m))
    (h0 : 0 ≤ m) (hb : bytes * m ≤ 281474976710656) (hm : m ≤ 9223372036854775807) (hw : St w0 H L w)
    (k : ∀ v' w' fp', OwnSl H c e v' (List.replicate m.toNat z0) fp' → St w0 H (fp' ++ L) w' → WL P ops Q n ((d, v') :: l) rest w') :
    WL P ops Q n l (⟨some d, .makeSlice t x y, ty, pos, af, none⟩ :: rest) w := by
  obtain ⟨i, hI, hz, h3, h2⟩ := info_parts hi
  subst h2
  have hr := run_make (P := P) w t e i z ht hI hz kk kk m m h0 (Int.le_refl _) hb hm
  refine WL.turn rfl rfl hdn (fun a ha => ?_) (k _ _ [(w.heap.size, .cells (madeCells z.cells (m.toNat * i.size)) e (0, 0))] (.inr ⟨_, m.toNat, _, _, [], by rw [List.length_replicate], rfl, by rw [List.append_nil], by rw [size_madeCells, h3], by rw [List.length_replicate]; exact Nat.le_refl _, by unfold maxLen; omega, ?_⟩) (hw.alloc _))
  · simp [execOp, ha.eval hx, ha.eval hy, hr]
  · rw [h3]; exact made_reps hz0 _
end
section
variable {P : Program} {ops : Array Oper} {eff : Nat → Bool} {anc : Nat → Nat → Bool} {Qx : Exit → Act → World → Prop} {n : Nat} {l : List (Nat × Value)} {R : List Nat} {pend : Pend} {C : World → Prop} {w : World}
theorem Wd.runbs {w0 : World} {H : View} {L : Seg} {b off k : Nat} {arr : Array Value} {T : TypeId} {cs : List Value} {u : Value} {i d : Nat} {o : Oper} (ho : ops[i]? = some o) (he : eff i = false) (hd : o.dst = some d) (hdn : Nat.blt d n = true)
    (hx : ∀ (K : View) (L : Seg) (arr' : Array Value), (arr'.toList.drop off).take k = cs → Exv P n l (St w0 K ([(b, .cells arr' T (0, 0))] ++ L)) o u) (hu : (arr.toList.drop off).take k = cs) (hC : ∀ w, C w → St w0 H ([(b, .cells arr T (0, 0))] ++ L) w)
    (kk : ∀ p : (World → Prop) → Prop, (∀ (K : View) (L : Seg) (arr' : Array Value) (C' : World → Prop), (arr'.toList.drop off).take k = cs → (∀ w, C' w → St w0 K ([(b, .cells arr' T (0, 0))] ++ L) w) → p C') → Wd P ops eff anc Qx n ((d, u) :: l) R ((i, p) :: pend) C) : Wd P ops eff anc Qx n l (i :: R) pend C :=
  Wd.step ho he hd hdn ((hx H L arr hu).of hC) fun p hp => kk p fun K L arr' C' h1 hc => hp C' ((hx K L arr' h1).of hc)
end
section skipu
variable {P : Program} {ops : Array Oper} {Q : Exit → Act → World → Prop} {n : Nat} {l : List (Nat × Value)} {rest : List Oper} {o : Oper} {w : World} {C : World → Prop} {K : Act → Prop}
theorem guard_undef {a : Act} {j d : Nat} (ha : Fr n l a) (hj : (ops[j]?).bind (·.dst) = some d) (hv : lk l d = some undef) : yielded ops a.tmps j = none := by
  unfold yielded
  rw [hj, Option.bind_some, ha.val _ _ hv]
  rfl
theorem WL.skip_u {d j dj : Nat} {want : Bool} (hg : o.guard = some (j, want)) (hj : (ops[j]?).bind (·.dst) = some dj) (hv : lk l dj = some undef)
    (hd : o.dst = some d) (hdn : Nat.blt d n = true) (k : WL P ops Q n ((d, undef) :: l) rest w) : WL P ops Q n l (o :: rest) w := fun a ha => wpList_step fun K hK => by
  rw [if_neg (by simp [Region.wanted, hg, guard_undef ha hj hv]), hd]
  exact hK _ _ (k _ (ha.put hdn undef))
theorem Wq.skip_u {d j dj : Nat} {want : Bool} (hg : o.guard = some (j, want)) (hj : (ops[j]?).bind (·.dst) = some dj) (hv : lk l dj = some undef)
    (hd : o.dst = some d) (hdn : Nat.blt d n = true) (k : Wq P ops C K n ((d, undef) :: l) rest) : Wq P ops C K n l (o :: rest) := fun a ha => wpQuiet_step fun K' hK => by
  rw [if_neg (by simp [Region.wanted, hg, guard_undef ha hj hv]), hd]
  exact hK _ (k _ (ha.put hdn undef))
end skipu
section fam
variable {P : Program} {ops : Array Oper} {eff : Nat → Bool} {Q : Act → World → Prop}
end fam
end Go.Vc
