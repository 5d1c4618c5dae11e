/- The operations of the calculus that turn memory: append, make, a store; blocks of an own variable or struct. -/
import Derived.Test.YtmdoicffgeihcaaGreatDoorOps
set_option linter.unusedVariables false
namespace Go.Vc
open Go

/-! ### Codecs -/
def cInt (k : IntKind) : Codec Int where
  size := 1
  rep := fun _ cs x => cs = [.int k x] ∧ k.has x
  len := fun h => by rw [h.1]; rfl
  mono := fun _ h => h
  one := fun h u hu => by rw [h.1] at hu; rw [List.mem_singleton.1 hu]; rfl
def cBool : Codec Bool where
  size := 1
  rep := fun _ cs x => cs = [.bool x]
  len := fun h => by rw [h]; rfl
  mono := fun _ h => h
  one := fun h u hu => by rw [h] at hu; rw [List.mem_singleton.1 hu]; rfl
/-- A slice that is shared, in one cell. -/
def cSl {α : Type} (c : Codec α) : Codec (List α) where
  size := 1
  rep := fun H cs x => ∃ v, cs = [v] ∧ IsSl H c v x
  len := fun ⟨v, h, _⟩ => by rw [h]; rfl
  mono := fun hle ⟨v, h, h'⟩ => ⟨v, h, h'.mono hle⟩
  one := fun ⟨v, h, h'⟩ u hu => by rw [h] at hu; rw [List.mem_singleton.1 hu]; obtain ⟨_, _, rfl, _⟩ := h'; rfl
theorem cInt_rep {H : View} {k : IntKind} {u : Value} {x : Int} (h : (cInt k).rep H [u] x) : u = .int k x ∧ k.has x := ⟨by have := h.1; cases this; rfl, h.2⟩
theorem cBool_rep {H : View} {u : Value} {x : Bool} (h : cBool.rep H [u] x) : u = .bool x := by cases h; rfl
theorem cSl_rep {α : Type} {c : Codec α} {H : View} {u : Value} {x : List α} (h : (cSl c).rep H [u] x) : IsSl H c u x := by obtain ⟨v, h, h'⟩ := h; cases h; exact h'
theorem cInt_mk {H : View} {k : IntKind} {x : Int} (h : k.has x) : (cInt k).rep H [.int k x] x := ⟨rfl, h⟩
theorem cBool_mk {H : View} {x : Bool} : cBool.rep H [.bool x] x := rfl
theorem cSl_mk {α : Type} {c : Codec α} {H : View} {u : Value} {x : List α} (h : IsSl H c u x) : (cSl c).rep H [u] x := ⟨u, rfl, h⟩
theorem I64.has {x : Int} (h : I64 x) : IntKind.i64.has x := by
  unfold I64 at h; simp only [IntKind.has, IntKind.min, IntKind.max, IntKind.bits, IntKind.signed]; simp; omega
theorem has_I64 {x : Int} (h : IntKind.i64.has x) : I64 x := by
  unfold I64; simp only [IntKind.has, IntKind.min, IntKind.max, IntKind.bits, IntKind.signed] at h; simp at h; omega

/-! ### append -/
/-- What stands behind in an append: so many elements, whose cells are read where they lie. -/
def Src {α : Type} (c : Codec α) (H : View) (P : Program) (w : World) (x : Value) (ys : List α) : Prop :=
  (ys = [] ∧ ∃ ad cap, x = .slice ad 0 cap) ∨
  ∃ a m cap cs, x = .slice (some a) ys.length cap ∧ m = ys.length ∧ 0 < ys.length ∧ c.reps H cs ys ∧ ∀ j v, cs[j]? = some v → w.cell? (a.add j) = some v

section
variable {α : Type} {c : Codec α} {P : Program} {w0 w : World} {H : View} {L fp : Seg}
theorem IsSl.src {v : Value} {xs : List α} (hs : IsSl H c v xs) (hw : St w0 H L w) : Src c H P w v xs := by
  obtain ⟨ad, cap, rfl, h1, h2, h3, h4⟩ := hs
  rcases h4 with rfl | ⟨b, off, arr, T, fz, pre, cs, rest, rfl, e2, e3, e4, e5⟩
  · exact .inl ⟨rfl, ad, cap, rfl⟩
  · by_cases h0 : xs = []
    · subst h0; exact .inl ⟨rfl, _, _, rfl⟩
    · refine .inr ⟨_, _, _, cs, rfl, rfl, List.length_pos_iff.2 h0, e5, fun j v hj => ?_⟩
      have hb := hw.fits _ _ e2
      rw [Addr.add_lit]
      simp only [World.cell?, hb]
      simp only [Option.isSome_none, Bool.false_eq_true, if_false]
      have hj' := (List.getElem?_eq_some_iff.1 hj).1
      rw [← Array.getElem?_toList, e3, List.getElem?_append_right (by omega), e4, List.getElem?_append_left (by omega)]
      rw [← hj]; congr 1; omega
theorem OwnSl.src {T : TypeId} {v : Value} {xs : List α} (hs : OwnSl H c T v xs fp) (hw : St w0 H (fp ++ L) w) : Src c H P w v xs := by
  rcases hs with ⟨rfl, rfl, rfl⟩ | ⟨b, cap, arr, cs, rest, rfl, rfl, e3, e4, e5, e6, e7⟩
  · exact .inl ⟨rfl, _, _, rfl⟩
  · by_cases h0 : xs = []
    · subst h0; exact .inl ⟨rfl, _, _, rfl⟩
    · refine .inr ⟨_, _, _, cs, rfl, rfl, List.length_pos_iff.2 h0, e7, fun j v hj => ?_⟩
      have hb := hw.own (b, .cells arr T (0, 0)) (by simp)
      rw [Addr.add_lit]
      simp only [World.cell?, hb]
      simp only [Option.isSome_none, Bool.false_eq_true, if_false]
      have hj' := (List.getElem?_eq_some_iff.1 hj).1
      rw [← Array.getElem?_toList, e3, Nat.zero_add, List.getElem?_append_left (by omega)]
      exact hj
/-- 'append(s, x...)', s owned. -/
theorem run_append {t ty e : TypeId} {i : TypeInfo} {z : Value} (ht : P.underlying t = some (.slice e)) (hi : P.info? e = some i) (hz : i.zero = some z) (hsz : i.size = c.size) (hzs : z.cells.size = c.size)
    {v x : Value} {xs ys : List α} (hw : St w0 H (fp ++ L) w) (hs : OwnSl H c e v xs fp) (hx : Src c H P w x ys) (hroom : (xs.length + ys.length) * i.bytes ≤ 140737488355328) (hmax : xs.length + ys.length ≤ maxLen) :
    ∃ v' w' fp', (Builtin.append_ #[t, t] ty #[v, x]).run P w = .ok v' w' ∧ OwnSl H c e v' (xs ++ ys) fp' ∧ St w0 H (fp' ++ L) w' := by
  rcases hx with ⟨rfl, ad, cap, rfl⟩ | ⟨a, m, capx, ns, rfl, _, hpos, hns, hcell⟩
  · rw [List.append_nil]
    rcases hs with ⟨rfl, rfl, rfl⟩ | ⟨b, cap', arr, cs, rest, rfl, rfl, e3, e4, e5, e6, e7⟩
    · refine ⟨.slice none 0 0, w, [], ?_, OwnSl.nil, hw⟩
      cases ad <;> simp [Builtin.append_, run_underlying ht, sizeOf, typeInfo, hi, Builtin.lenOf, Builtin.firstCells, loadCells, loadCellsFrom]
    · refine ⟨.slice (some ⟨b, 0, none⟩) xs.length cap', w, _, ?_, .inr ⟨b, cap', arr, cs, rest, rfl, rfl, e3, e4, e5, e6, e7⟩, hw⟩
      cases ad <;> simp [Builtin.append_, run_underlying ht, sizeOf, typeInfo, hi, Builtin.lenOf, Builtin.firstCells, loadCells, loadCellsFrom, e5, storeCells]
  · have hnl := Codec.reps_length hns
    have h63 : ((xs.length + ys.length : Nat) : Int) ≤ 9223372036854775807 := by unfold maxLen at hmax; omega
    rcases hs with ⟨rfl, rfl, rfl⟩ | ⟨b, cap', arr, cs, rest, rfl, rfl, e3, e4, e5, e6, e7⟩
    · simp only [List.length_nil, Nat.zero_add] at hroom h63 hmax
      have hr := run_append_nil (P := P) w t ty e i z ht hi hz a ys.length capx ns (by rw [hnl, hsz]) hcell hpos h63 (by omega)
      refine ⟨_, _, _, hr, .inr ⟨_, grownCap w ys.length 0 e, _, ns, (Builtin.zeroCells z.cells (grownCap w ys.length 0 e - ys.length)).toList, rfl, rfl, by simp, ?_, ?_, ?_, ?_⟩, hw.drew.alloc _⟩
      · simp only [Array.size_append, List.size_toArray, size_zeroCells, hzs, hnl, ← Nat.add_mul]
        congr 1; have := grownCap_ge w ys.length 0 e; omega
      · simpa using grownCap_ge w ys.length 0 e
      · exact grownCap_le_maxLen w _ _ _ hmax
      · simpa using hns
    · by_cases hroom' : xs.length + ys.length ≤ cap'
      · have hg := hw.own (b, .cells arr e (0, 0)) (by simp)
        have hcl := Codec.reps_length e7
        have hfit : xs.length * i.size + ns.length ≤ arr.size := by rw [hnl, hsz, e4, ← Nat.add_mul]; exact Nat.mul_le_mul_right _ hroom'
        have hr := run_append_room (P := P) w t ty e i ht hi b xs.length cap' arr hg a ys.length capx ns (by rw [hnl, hsz]) hcell (Codec.reps_one hns) hroom' hfit
        have htk : arr.toList.take (xs.length * i.size) = cs := by rw [hsz, ← hcl, e3, List.take_left]
        refine ⟨_, _, [(b, .cells (arr.toList.take (xs.length * i.size) ++ ns ++ arr.toList.drop (xs.length * i.size + ns.length)).toArray e (0, 0))], hr, .inr ⟨b, cap', _, cs ++ ns, arr.toList.drop (xs.length * i.size + ns.length), by rw [List.length_append], rfl, ?_, ?_, ?_, e6, Codec.reps_append e7 hns⟩, ?_⟩
        · simp only [htk, List.append_assoc]
        · simp only [htk, List.size_toArray, List.length_append, List.length_drop, Array.length_toList]
          have h2 : cs.length = xs.length * i.size := by rw [hcl, hsz]
          rw [← e4]; omega
        · rw [List.length_append]; exact hroom'
        · exact hw.write rfl rfl rfl (by simp [World.setRow]) (setRow_heap w b arr _ e _ hg) (fun k hk => setRow_other w b k _ hk)
      · have hg := hw.own (b, .cells arr e (0, 0)) (by simp)
        have hcl := Codec.reps_length e7
        have holds : ∀ j u, cs[j]? = some u → w.cell? ((⟨b, 0, none⟩ : Addr).add j) = some u := fun j u hj => by
          rw [Addr.add_lit]
          simp only [World.cell?, hg]
          simp only [Option.isSome_none, Bool.false_eq_true, if_false]
          have hj' := (List.getElem?_eq_some_iff.1 hj).1
          rw [← Array.getElem?_toList, e3, Nat.zero_add, List.getElem?_append_left (by omega)]
          exact hj
        have hr := run_append_grow (P := P) w t ty e i z ht hi hz ⟨b, 0, none⟩ xs.length cap' cs (by rw [hcl, hsz]) holds a ys.length capx ns (by rw [hnl, hsz]) hcell (by omega) h63 (growslice_fits (by omega) hroom)
        refine ⟨_, _, _, hr, .inr ⟨_, grownCap w (xs.length + ys.length) cap' e, _, cs ++ ns, (Builtin.zeroCells z.cells (grownCap w (xs.length + ys.length) cap' e - (xs.length + ys.length))).toList, by rw [List.length_append]; rfl, rfl, by simp, ?_, ?_, ?_, Codec.reps_append e7 hns⟩, (hw.drop (s := [(b, .cells arr e (0, 0))])).drew.alloc _⟩
        · simp only [Array.size_append, List.size_toArray, size_zeroCells, hzs, hnl, hcl, ← Nat.add_mul]
          congr 1; have := grownCap_ge w (xs.length + ys.length) cap' e; omega
        · rw [List.length_append]; exact grownCap_ge w _ _ e
        · exact grownCap_le_maxLen w _ _ _ hmax
end

theorem map_range0 {β : Type} (f : Nat → β) : (Array.range 0).map f = #[] := by apply Array.ext <;> simp
theorem map_range1 {β : Type} (f : Nat → β) (v : β) : ((Array.range 1).map f).setIfInBounds 0 v = #[v] := by
  apply Array.ext
  · simp
  · intro i h1 h2
    have : i = 0 := by simpa using h2
    subst this
    simp
section rules
variable {P : Program} {ops : Array Oper} {Q : Exit → Act → World → Prop} {n : Nat} {l : List (Nat × Value)} {rest : List Oper} {w0 w : World} {H : View} {L : Seg} {ty : TypeId} {pos : String} {af : Array Edge}
theorem WL.append {α : Type} {c : Codec α} {fp : Seg} {d : Nat} {t e : TypeId} {z : Value} {bytes : Nat} {x y : Operand} {v u : Value} {xs ys : List α} (hdn : Nat.blt d n = true)
    (ht : P.underlying t = some (.slice e)) (hi : (P.info? e).map (fun i => (i.zero, i.size, i.bytes)) = some (some z, c.size, bytes)) (hzs : z.cells.size = c.size)
    (hx : opv l x = some v) (hy : opv l y = some u) (hw : St w0 H (fp ++ L) w) (hs : OwnSl H c e v xs fp) (hsrc : Src c H P w u ys) (hroom : (xs.length + ys.length) * bytes ≤ 140737488355328) (hmax : xs.length + ys.length ≤ maxLen)
    (k : ∀ v' w' fp', OwnSl H c e v' (xs ++ ys) fp' → St w0 H (fp' ++ L) w' → WL P ops Q n ((d, v') :: l) rest w') :
    WL P ops Q n l (⟨some d, .call { callee := .builtin .append, args := #[x, y], argTypes := #[t, t] }, ty, pos, af, none⟩ :: rest) w := by
  obtain ⟨i, hI, hz, h1, h2⟩ := info_parts hi
  subst h2
  obtain ⟨v', w', fp', hr, ho, hst⟩ := run_append (P := P) (ty := ty) ht hI hz h1 hzs hw hs hsrc hroom hmax
  refine WL.turn rfl rfl hdn (fun a ha => ?_) (k v' w' fp' ho hst)
  simp [execOp, resolve, invoke, builtin, ha.eval hx, ha.eval hy, hr]
/-- A slice of no elements, made of nothing. -/
theorem WL.build0 {α : Type} {c : Codec α} {d : Nat} {t e : TypeId} (hdn : Nat.blt d n = true) (ht : P.underlying t = some (.slice e)) (hsz : ∀ w, (sizeOf e).run P w = .ok c.size w) (hw : St w0 H L w)
    (k : ∀ v' w' fp', OwnSl H c e v' ([] : List α) fp' → St w0 H (fp' ++ L) w' → WL P ops Q n ((d, v') :: l) rest w') :
    WL P ops Q n l (⟨some d, .buildSlice t 0 #[], ty, pos, af, none⟩ :: rest) w := by
  refine WL.turn (w' := w.alloc (.cells #[] e)) (v := .slice (some ⟨w.heap.size, 0, none⟩) 0 0) rfl rfl hdn (fun a ha => ?_) (k _ _ _ (.inr ⟨_, 0, #[], [], [], rfl, rfl, rfl, by simp, Nat.le_refl _, by unfold maxLen; omega, rfl⟩) (hw.alloc _))
  simp [execOp, Instr.buildSlice, run_underlying ht, hsz, Instr.fill, newRow, map_range0]
/-- A slice of one element. -/
theorem WL.build1 {α : Type} {c : Codec α} {d : Nat} {t e : TypeId} {z : Value} {bytes : Nat} {x : Operand} {v : Value} {y : α} (hdn : Nat.blt d n = true) (ht : P.underlying t = some (.slice e))
    (hi : (P.info? e).map (fun i => (i.zero, i.size, i.bytes)) = some (some z, c.size, bytes)) (h1 : c.size = 1) (hv : opv l x = some v) (hr : c.rep H [v] y) (hw : St w0 H L w)
    (k : ∀ v' w' fp', OwnSl H c e v' [y] fp' → St w0 H (fp' ++ L) w' → WL P ops Q n ((d, v') :: l) rest w') :
    WL P ops Q n l (⟨some d, .buildSlice t 1 #[(0, x)], ty, pos, af, none⟩ :: rest) w := by
  obtain ⟨i, hI, hz, h3, h2⟩ := info_parts hi
  have hone := c.one hr v (by simp)
  have hcs : v.cells = #[v] := by cases v <;> first | rfl | cases hone
  refine WL.turn (w' := w.alloc (.cells #[v] e)) (v := .slice (some ⟨w.heap.size, 0, none⟩) 1 1) rfl rfl hdn (fun a ha => ?_) (k _ _ _ (.inr ⟨_, 1, #[v], [v], [], rfl, rfl, rfl, by simp [h1], Nat.le_refl _, by unfold maxLen; omega, Codec.reps_single.2 hr⟩) (hw.alloc _))
  simp [execOp, Instr.buildSlice, run_underlying ht, sizeOf, typeInfo, hI, h3, h1, zeroValue, hz, Instr.fill, hcs, newRow, ha.eval hv, map_range1]
/-- 'make([]T, n)'. -/
theorem WL.make {α : Type} {c : Codec α} {d : Nat} {t e : TypeId} {z : Value} {bytes : Nat} {x y : Operand} {m : Int} {z0 : α} {kk : IntKind} (hdn : Nat.blt d n = true) (ht : P.underlying t = some (.slice e))
    (hi : (P.info? e).map (fun i => (i.zero, i.size, i.bytes)) = some (some z, c.size, bytes)) (h1 : c.size = 1) (hz0 : c.rep H z.cells.toList z0) (hx : opv l x = some (.int kk m)) (hy : opv l y = some (.int kk m))
    (h0 : 0 ≤ m) (hb : bytes * m ≤ 281474976710656) (hm : m ≤ 9223372036854775807) (hw : St w0 H L w)
    (k : ∀ v' w' fp', OwnSl H c e v' (List.replicate m.toNat z0) fp' → St w0 H (fp' ++ L) w' → WL P ops Q n ((d, v') :: l) rest w') :
    WL P ops Q n l (⟨some d, .makeSlice t x y, ty, pos, af, none⟩ :: rest) w := by
  obtain ⟨i, hI, hz, h3, h2⟩ := info_parts hi
  subst h2
  have hr := run_make (P := P) w t e i z ht hI hz kk kk m m h0 (Int.le_refl _) hb hm
  have hzl := c.len hz0
  rw [h1] at hzl
  have hreps : ∀ (q : Nat), c.reps H (List.replicate q (z.cells.getD 0 undef)) (List.replicate q z0) := by
    intro q
    induction q with
    | zero => rfl
    | succ q ih =>
      refine ⟨[z.cells.getD 0 undef], _, rfl, ?_, ih⟩
      have : z.cells.toList = [z.cells.getD 0 undef] := by
        match hh : z.cells.toList, hzl with
        | [u], _ => rw [Array.getD_eq_getD_getElem?, ← Array.getElem?_toList, hh]; rfl
      rw [← this]; exact hz0
  have hmc : (madeCells z.cells (m.toNat * i.size)).toList = List.replicate m.toNat (z.cells.getD 0 undef) := by
    have hs1 : z.cells.size = 1 := by rw [← Array.length_toList]; exact hzl
    apply List.ext_getElem
    · simp [madeCells, h3, h1]
    · intro j h5 h6
      simp [madeCells, hs1, Nat.mod_one]
  refine WL.turn rfl rfl hdn (fun a ha => ?_) (k _ _ [(w.heap.size, .cells (madeCells z.cells (m.toNat * i.size)) e (0, 0))] (.inr ⟨_, m.toNat, _, _, [], by rw [List.length_replicate], rfl, by rw [List.append_nil], by rw [size_madeCells, h3], by rw [List.length_replicate]; exact Nat.le_refl _, by unfold maxLen; omega, ?_⟩) (hw.alloc _))
  · simp [execOp, ha.eval hx, ha.eval hy, hr]
  · rw [hmc]; exact hreps _
/-- A store to an element of an owned slice. -/
theorem WL.store_own {α : Type} {c : Codec α} {T : TypeId} {fp : Seg} {t : TypeId} {x y : Operand} {p v u : Value} {xs : List α} {i : Int} {z : α} (hsz : ∀ w, (sizeOf t).run P w = .ok c.size w) (h1 : c.size = 1)
    (hx : opv l x = some p) (hy : opv l y = some u) (hr : c.rep H [u] z) (hw : St w0 H (fp ++ L) w) (hs : OwnSl H c T v xs fp) (hp : OwnPt c v i.toNat p) (h : 0 ≤ i ∧ i < xs.length)
    (k : ∀ w' fp', OwnSl H c T v (xs.set i.toNat z) fp' → St w0 H (fp' ++ L) w' → WL P ops Q n l rest w') :
    WL P ops Q n l (⟨none, .store t x y, ty, pos, af, none⟩ :: rest) w := by
  have hone := c.one hr u (by simp)
  have hcs : u.cells = #[u] := by cases u <;> first | rfl | cases hone
  rcases hs with ⟨rfl, rfl, rfl⟩ | ⟨b, cap, arr, cs, rst, rfl, rfl, e3, e4, e5, e6, e7⟩
  · simp at h; omega
  · obtain ⟨b', n', cap', hv, rfl⟩ := hp
    cases hv
    have hlt : i.toNat < xs.length := by omega
    obtain ⟨a', m, b', f1, f2, f3, f4, f5⟩ := Codec.reps_get e7 (List.getElem?_eq_getElem hlt)
    have hl := c.len f3
    rw [h1] at hl f2
    have hg := hw.own (b, .cells arr T (0, 0)) (by simp)
    match m, hl with
    | [old], _ =>
      have hcell : w.cell? ⟨b, i.toNat * c.size, none⟩ = some old := by
        simp only [World.cell?, hg]
        simp only [Option.isSome_none, Bool.false_eq_true, if_false]
        rw [← Array.getElem?_toList, e3, f1, h1, List.append_assoc, List.getElem?_append_right (by omega), f2]; simp
      have hfr : w.frozen? ⟨b, i.toNat * c.size, none⟩ = false := by simp [World.frozen?, hg]
      have hasz : i.toNat < arr.size := by rw [e4, h1]; omega
      refine WL.turn0 (w' := w.setCell ⟨b, i.toNat * c.size, none⟩ u) rfl rfl (fun a ha => ?_) (k _ [(b, .cells (arr.setIfInBounds (i.toNat * c.size) u) T (0, 0))] (.inr ⟨b, cap, _, a' ++ ([u] ++ b'), rst, by rw [List.length_set], rfl, ?_, by simp [e4], by rw [List.length_set]; exact e5, e6, ?_⟩)
        (hw.write rfl rfl rfl (by simp) ?_ (fun q hq => RowKit.Below.heap_setCell w _ u q hq)))
      · have hst : (storeCells ⟨b, i.toNat * c.size, none⟩ [u]).run P w = .ok () (w.setCell ⟨b, i.toNat * c.size, none⟩ u) := by
          simp [storeCells, Addr.add_lit, run_store P w _ u .plain hone, hcell, hfr]
        simp [execOp, Instr.storeAt, Instr.sureAddr, storeVar, ha.eval hx, ha.eval hy, hcs, hsz, h1]
        simp [h1] at hst
        simp [hst]
      · rw [Array.toList_setIfInBounds, e3, f1, h1, Nat.mul_one]
        simp only [Nat.mul_one] at f2
        rw [List.append_assoc, List.set_append_right _ _ (by omega), f2]
        simp
      · have e : xs.set i.toNat z = xs.take i.toNat ++ ([z] ++ xs.drop (i.toNat + 1)) := by
          rw [List.set_eq_take_append_cons_drop, if_pos hlt]; rfl
        rw [e]
        exact Codec.reps_append f4 (Codec.reps_append (Codec.reps_single.2 hr) f5)
      · simp only [World.setCell, Array.getElem?_modify, if_true, hg, Option.map_some]
        simp
end rules
end Go.Vc
namespace Go.Vc
open Go
/-! ### The words of the conditions -/
def Len {α : Type} (a : List α) : Prop := (a.length : Int) ≤ 9223372036854775807
def VLoop {σ : Type} (s0 : σ) (body : σ → (σ → Prop) → Prop) : Prop := ∃ (I : σ → Prop) (μ : σ → Nat), I s0 ∧ ∀ s, I s → body s (fun s' => I s' ∧ μ s' < μ s)
def VMeet {σ : Type} (rest : σ → Prop) (body : (σ → Prop) → Prop) : Prop := ∃ J : σ → Prop, (∀ s, J s → rest s) ∧ body J
/-- There is room for so many elements of so many bytes. -/
def Room (k bytes : Nat) : Prop := k * bytes ≤ 140737488355328 ∧ k ≤ maxLen
/-- An index within a list. -/
def In {α : Type} (i : Int) (xs : List α) : Prop := 0 ≤ i ∧ i < xs.length
section
variable {P : Program} {n : Nat} {l : List (Nat × Value)} {Q : Exit → Act → World → Prop} {w : World}
theorem enters0 {dst : Option Tmp} {ty : TypeId} {pos : String} {af : Array Edge} {gd : Option (Nat × Bool)} {xs : List Operand} {vs : List Value} {ts : Array TypeId} {f : FuncId}
    (hb : ∀ (args : Array Value) (w : World), (callFunc f args).run P w = .ok (.enter f args) w) (hv : opvs l xs vs) :
    ∀ a, Fr n l a → (execOp a.eval ⟨dst, .call { callee := .value (.func f), args := xs.toArray, argTypes := ts }, ty, pos, af, gd⟩).run P w = .ok (.enter f vs.toArray) w := fun a ha => by
  have := enters (P := P) (w := w) (dst := dst) (ty := ty) (pos := pos) (af := af) (gd := gd) (ts := ts) (fo := .func f) (cap := #[]) rfl hb hv a ha
  simpa using this
theorem in_frame {c : Code} {a : Act} (ha : Fr n l a) (h : WC P Q n l c w) : c.wp P Q a w := h a ha
theorem rep_own {α : Type} {H K : View} {c : Codec α} {T : TypeId} {v : Value} {xs : List α} {fp : Seg} (h : OwnSl H c T v xs fp) (hc : ∀ cs x, c.rep H cs x → c.rep K cs x) : OwnSl K c T v xs fp := by
  have hr : ∀ (xs : List α) (cs : List Value), c.reps H cs xs → c.reps K cs xs := by
    intro xs
    induction xs with
    | nil => intro cs h; exact h
    | cons x xs ih => rintro cs ⟨a, b, e, h1, h2⟩; exact ⟨a, b, e, hc _ _ h1, ih _ h2⟩
  rcases h with h | ⟨b, cap, arr, cs, rest, e1, e2, e3, e4, e5, e6, e7⟩
  · exact .inl h
  · exact .inr ⟨b, cap, arr, cs, rest, e1, e2, e3, e4, e5, e6, hr _ _ e7⟩
end
end Go.Vc
namespace Go.Vc
theorem not_dec_t {p : Prop} [Decidable p] (h : (!decide p) = true) : ¬ p := by simpa using h
theorem not_dec_f {p : Prop} [Decidable p] (h : (!decide p) = false) : p := by simpa using h
theorem Len.i64 {α : Type} {xs : List α} (h : Len xs) : I64 (xs.length : Int) := ⟨by omega, h⟩
theorem and_t {p q : Prop} [Decidable p] [Decidable q] (h : decide p = true) : decide q = decide (p ∧ q) := by have := of_decide_eq_true h; simp [this]
theorem and_f {p q : Prop} [Decidable p] [Decidable q] (h : decide p = false) : false = decide (p ∧ q) := by have := of_decide_eq_false h; simp [this]
theorem or_t {p q : Prop} [Decidable p] [Decidable q] (h : decide p = true) : true = decide (p ∨ q) := by have := of_decide_eq_true h; simp [this]
theorem or_f {p q : Prop} [Decidable p] [Decidable q] (h : decide p = false) : decide q = decide (p ∨ q) := by have := of_decide_eq_false h; simp [this]
end Go.Vc
namespace Go.Vc
open Go
theorem dec_true (b : Bool) : b = decide (b = true) := by cases b <;> rfl
theorem dec_not (p : Prop) [Decidable p] : (!decide p) = decide (¬ p) := by by_cases h : p <;> simp [h]
def Made (m : Int) (bytes : Nat) : Prop := 0 ≤ m ∧ (bytes : Int) * m ≤ 281474976710656 ∧ m ≤ 9223372036854775807
def pairsFrom : Nat → List Value → List (Nat × Value)
  | _, [] => []
  | k, v :: vs => (k, v) :: pairsFrom (k + 1) vs
theorem fill_ones : ∀ (vs : List Value) (k : Nat) (cells : Array Value), (∀ v ∈ vs, v.cells = #[v]) → k + vs.length ≤ cells.size →
    Instr.fill (fun i => some (i * 1, 1)) cells (pairsFrom k vs) = some (cells.toList.take k ++ (vs ++ cells.toList.drop (k + vs.length))).toArray
  | [], k, cells, _, _ => by simp [pairsFrom, Instr.fill]
  | v :: vs, k, cells, h1, hk => by
    simp only [List.length_cons] at hk
    have hv := h1 v (by simp)
    have ih := fill_ones vs (k + 1) (cells.setIfInBounds k v) (fun u hu => h1 u (by simp [hu])) (by simp; omega)
    simp only [pairsFrom, Instr.fill, hv]
    have hz : (#[v].zipIdx.foldl (fun cs (x : Value × Nat) => cs.setIfInBounds (k * 1 + x.2) x.1) cells) = cells.setIfInBounds k v := by
      simp
    rw [if_neg (by simp; omega)]
    refine Eq.trans (congrArg (fun z => Instr.fill (fun i => some (i * 1, 1)) z (pairsFrom (k + 1) vs)) hz) (ih.trans ?_)
    congr 1
    rw [Array.toList_setIfInBounds]
    have hkl : k < cells.toList.length := by rw [Array.length_toList]; omega
    have e1 : (cells.toList.set k v).take (k + 1) = cells.toList.take k ++ [v] := by
      have hlt : (cells.toList.take k).length = k := by rw [List.length_take]; omega
      rw [List.take_set, List.take_succ_eq_append_getElem hkl, List.set_append_right _ _ (by omega), hlt, Nat.sub_self]
      rfl
    have e2 : (cells.toList.set k v).drop (k + 1 + vs.length) = cells.toList.drop (k + 1 + vs.length) := by
      rw [List.drop_set_of_lt (by omega)]
    rw [e1, e2, List.append_assoc]
    simp [Nat.add_assoc, Nat.add_comm 1 vs.length]
theorem evals_pairs {n : Nat} {l : List (Nat × Value)} {a : Act} (ha : Fr n l a) : ∀ (ps : List (Nat × Operand)) (vs : List Value) (k : Nat), ps.map (·.1) = List.range' k ps.length → opvs l (ps.map (·.2)) vs →
    ps.map (fun p => (p.1, a.eval p.2)) = pairsFrom k vs
  | [], [], _, _, _ => rfl
  | (i, x) :: ps, v :: vs, k, h, hv => by
    simp only [List.map_cons, List.length_cons, List.range'_succ, List.cons.injEq] at h
    obtain ⟨rfl, h⟩ := h
    simp only [List.map_cons, pairsFrom]
    rw [ha.eval hv.1, evals_pairs ha ps vs (i + 1) h hv.2]
  | [], _ :: _, _, _, hv => hv.elim
  | _ :: _, [], _, _, hv => hv.elim
theorem opvs_length {l : List (Nat × Value)} : ∀ {xs : List Operand} {vs : List Value}, opvs l xs vs → xs.length = vs.length
  | [], [], _ => rfl
  | _ :: _, _ :: _, h => by simp [opvs_length h.2]
  | [], _ :: _, h => h.elim
  | _ :: _, [], h => h.elim
/-- A slice of some elements, written out. -/
theorem WL.buildn {P : Program} {ops : Array Oper} {Q : Exit → Act → World → Prop} {n : Nat} {l : List (Nat × Value)} {rest : List Oper} {w0 w : World} {H : View} {L : Seg} {ty : TypeId} {pos : String} {af : Array Edge}
    {α : Type} {c : Codec α} {xs : List α} {vs : List Value} {d k : Nat} {t e : TypeId} {z : Value} {bytes : Nat} {ps : List (Nat × Operand)} (hdn : Nat.blt d n = true) (ht : P.underlying t = some (.slice e))
    (hi : (P.info? e).map (fun i => (i.zero, i.size, i.bytes)) = some (some z, c.size, bytes)) (h1 : c.size = 1) (hk : ps.map (·.1) = List.range' 0 k) (hv : opvs l (ps.map (·.2)) vs) (hsmall : Nat.ble k 16777216 = true) (hr : c.reps H vs xs) (hw : St w0 H L w)
    (hlen : vs.length = k)
    (go : ∀ v' w' fp', OwnSl H c e v' xs fp' → St w0 H (fp' ++ L) w' → WL P ops Q n ((d, v') :: l) rest w') :
    WL P ops Q n l (⟨some d, .buildSlice t k ps.toArray, ty, pos, af, none⟩ :: rest) w := by
  obtain ⟨i, hI, hz, h3, h2⟩ := info_parts hi
  have hpl : ps.length = k := by have := opvs_length hv; simp at this; omega
  have hxl : xs.length = k := by have := Codec.reps_length hr; rw [h1, Nat.mul_one] at this; omega
  have hcs : ∀ v ∈ vs, v.cells = #[v] := fun v hv => by have := Codec.reps_one hr v hv; cases v <;> first | rfl | cases this
  have hfill := fill_ones vs 0 ((Array.range k).map (z.cells[· % z.cells.size]!)) hcs (by simp; omega)
  have hfill0 : k = 0 → Instr.fill (fun i => some (i * 1, 1)) ((Array.range 0).map (fun i => (#[] : Array Value)[i % 0]!)) (pairsFrom 0 vs) = some vs.toArray := fun h0 => by
    have : vs = [] := List.length_eq_zero_iff.1 (by omega)
    subst this; simp [pairsFrom, Instr.fill]
  have hf2 : ((Array.range k).map (z.cells[· % z.cells.size]!)).toList.drop (0 + vs.length) = [] := by
    rw [List.drop_eq_nil_iff]; simp; omega
  rw [hf2] at hfill
  simp only [List.take_zero, List.nil_append, List.append_nil] at hfill
  have hk16 : k ≤ 16777216 := by simpa using hsmall
  have hb : ¬ (k > 2 ^ 24) := by omega
  have hkm : k ≤ maxLen := by unfold maxLen; omega
  refine WL.turn (w' := w.alloc (.cells vs.toArray e)) (v := .slice (some ⟨w.heap.size, 0, none⟩) k k) rfl rfl hdn (fun a ha => ?_)
    (go _ _ _ (.inr ⟨_, k, vs.toArray, vs, [], by rw [hxl], rfl, by simp, by simp [h1, hlen], by omega, hkm, hr⟩) (hw.alloc _))
  have he := evals_pairs ha ps vs 0 (by rw [hpl]; exact hk) hv
  by_cases h0 : k = 0
  · have hvs : vs = [] := List.length_eq_zero_iff.1 (by omega)
    have hps : ps = [] := List.length_eq_zero_iff.1 (by omega)
    subst hvs; subst hps; subst h0
    simp [execOp, Instr.buildSlice, run_underlying ht, sizeOf, typeInfo, hI, Instr.fill, newRow, map_range0]
  · simp [execOp, Instr.buildSlice, run_underlying ht, sizeOf, typeInfo, hI, h3, h1, zeroValue, hz, newRow, hb, h0, he]
    have : (fun i => some (i, 1)) = (fun i => some (i * 1, 1) : Nat → Option (Nat × Nat)) := by funext i; simp
    rw [this, hfill]
    simp
end Go.Vc
