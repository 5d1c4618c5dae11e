/- More rules: regions whose effects stand in several orders; slices of structs made; heads of owned slices; structs out of own blocks in regions that draw and turn. -/
import Derived.Test.YtmdoicffgeihcaaGreatDoorMap
set_option linter.unusedVariables false
set_option linter.unusedSimpArgs false
namespace Go.Vc
open Go
theorem cells_int {k : IntKind} {x : Int} : (Value.int k x).cells = #[.int k x] := rfl
theorem cells_ptr {x : Option Addr} : (Value.pointer x).cells = #[.pointer x] := rfl
theorem cells_bool {x : Bool} : (Value.bool x).cells = #[.bool x] := rfl
theorem rep_map {κ ν : Type} {H K : View} {kc : KC κ} {c : Codec ν} {v : Value} {m : List (κ × ν)} {fp : Seg} (h : OwnMp H kc c v m fp) (hc : ∀ cs x, c.rep H cs x → c.rep K cs x) : OwnMp K kc c v m fp := by
  obtain ⟨r, es, clock, h1, h2, h3, h4⟩ := h
  refine ⟨r, es, clock, h1, h2, ?_, h4⟩
  clear h4 h2
  generalize es.toList = el at h3 ⊢
  induction el generalizing m with
  | nil => cases m <;> exact h3
  | cons e el ih => cases m with
    | nil => exact h3
    | cons p m => exact ⟨h3.1, h3.2.1, hc _ _ h3.2.2.1, ih h3.2.2.2⟩
section
variable {P : Program} {ops : Array Oper} {Q : Exit → Act → World → Prop} {n : Nat} {l : List (Nat × Value)} {rest : List Oper} {w0 w : World} {H : View} {L : Seg} {C : World → Prop} {dst : Option Tmp} {ty : TypeId} {pos : String} {af : Array Edge} {gd : Option (Nat × Bool)}
theorem ex_slice_hi_own2 {α : Type} {c : Codec α} {T : TypeId} {fp : Seg} {t e : TypeId} {x y : Operand} {v : Value} {xs : List α} {k : IntKind} {hi : Int} (ht : P.underlying t = some (.slice e)) (hsz : ∀ w, (sizeOf e).run P w = .ok c.size w) (hx : opv l x = some v)
    (hy : opv l y = some (.int k hi)) (hs : OwnSl H c T v xs fp) (h : 0 ≤ hi ∧ hi ≤ xs.length) : ∃ u, (SrcOf c H P fp u (xs.take hi.toNat) ∧ OwnSl H c T u (xs.take hi.toNat) fp) ∧ Exv P n l C ⟨dst, .slice t x none (some y) none, ty, pos, af, gd⟩ u := by
  obtain ⟨ad, cap, hv, h1, h2⟩ := own_sub (P := P) hs (lo := 0) (hi := hi.toNat) (by omega) (by omega)
  refine ⟨.slice (if cap = 0 then ad else ad.map (·.add (0 * c.size))) (hi.toNat - 0) (cap - 0), ⟨fun {w0 w L} hw => by have := h2 hw; rwa [List.drop_zero] at this, ?_⟩, fun w _ a ha => ?_⟩
  · rcases hs with ⟨rfl, rfl, rfl⟩ | ⟨b, cap', arr, cs, rst, rfl, rfl, e3, e4, e5, e6, e7⟩
    · cases hv
      have : hi.toNat = 0 := by simp at h; omega
      rw [this]
      exact .inl ⟨by simp, rfl, rfl⟩
    · cases hv
      have hle : hi.toNat ≤ xs.length := by omega
      rw [← List.take_append_drop hi.toNat xs] at e7
      obtain ⟨a', b', f1, f2, f3⟩ := Codec.reps_split e7
      refine .inr ⟨b, cap, arr, a', b' ++ rst, ?_, rfl, by rw [e3, f1, List.append_assoc], e4, by rw [List.length_take]; omega, e6, f2⟩
      rw [List.length_take, Nat.min_eq_left hle]
      split <;> simp [Addr.add_lit]
  · subst hv
    have hb := fun w => run_bound (P := P) (k := k) (y := cap) (code := .sliceAcap) (w := w) h.1 (show hi ≤ (cap : Int) by omega)
    simp [execOp, Instr.sliceAt, Instr.slice, ha.eval hx, ha.eval hy, run_underlying ht, Instr.sliceBounds, hb, hsz]
theorem made_reps {α : Type} {c : Codec α} {zs : Array Value} {z0 : α} (hz0 : c.rep H zs.toList z0) : ∀ q, c.reps H (madeCells zs (q * c.size)).toList (List.replicate q z0) := by
  have hl : zs.size = c.size := by have := c.len hz0; simpa using this
  intro q
  induction q with
  | zero => show _ = _; simp [madeCells]
  | succ q ih =>
    have : (madeCells zs ((q + 1) * c.size)).toList = (madeCells zs (q * c.size)).toList ++ zs.toList := by
      apply List.ext_getElem?
      intro j
      by_cases h1 : j < q * c.size
      · rw [List.getElem?_append_left (by simp [madeCells]; omega)]
        have h2 : j < (q + 1) * c.size := by rw [Nat.add_mul]; omega
        simp [madeCells, h1, h2]
      · rw [List.getElem?_append_right (by simp [madeCells]; omega)]
        by_cases h2 : j < (q + 1) * c.size
        · have h3 : j - q * c.size < c.size := by rw [Nat.add_mul] at h2; omega
          have h4 : j % zs.size = j - q * c.size := by
            rw [hl]
            have : j = (j - q * c.size) + q * c.size := by omega
            conv => lhs; rw [this]
            rw [Nat.add_mul_mod_self_right, Nat.mod_eq_of_lt h3]
          have h5 : j - q * c.size < zs.size := by omega
          simp [madeCells, h2, h4, h5]
        · have h3 : ¬ j - q * c.size < zs.size := by rw [Nat.add_mul] at h2; omega
          simp [madeCells, h2]
          omega
    rw [this, List.replicate_succ']
    exact Codec.reps_append ih (Codec.reps_single.2 hz0)
/-- 'make([]T, n)', T of several cells. -/
theorem WL.makes {α : Type} {c : Codec α} {d : Nat} {t e : TypeId} {z : Value} {bytes : Nat} {x y : Operand} {m : Int} {z0 : α} {kk : IntKind} (hdn : Nat.blt d n = true) (ht : P.underlying t = some (.slice e))
    (hi : (P.info? e).map (fun i => (i.zero, i.size, i.bytes)) = some (some z, c.size, bytes)) (hz0 : c.rep H z.cells.toList z0) (hx : opv l x = some (.int kk m)) (hy : opv l y = some (.int kk m))
    (h0 : 0 ≤ m) (hb : bytes * m ≤ 281474976710656) (hm : m ≤ 9223372036854775807) (hw : St w0 H L w)
    (k : ∀ v' w' fp', OwnSl H c e v' (List.replicate m.toNat z0) fp' → St w0 H (fp' ++ L) w' → WL P ops Q n ((d, v') :: l) rest w') :
    WL P ops Q n l (⟨some d, .makeSlice t x y, ty, pos, af, none⟩ :: rest) w := by
  obtain ⟨i, hI, hz, h3, h2⟩ := info_parts hi
  subst h2
  have hr := run_make (P := P) w t e i z ht hI hz kk kk m m h0 (Int.le_refl _) hb hm
  refine WL.turn rfl rfl hdn (fun a ha => ?_) (k _ _ [(w.heap.size, .cells (madeCells z.cells (m.toNat * i.size)) e (0, 0))] (.inr ⟨_, m.toNat, _, _, [], by rw [List.length_replicate], rfl, by rw [List.append_nil], by rw [size_madeCells, h3], by rw [List.length_replicate]; exact Nat.le_refl _, by unfold maxLen; omega, ?_⟩) (hw.alloc _))
  · simp [execOp, ha.eval hx, ha.eval hy, hr]
  · rw [h3]; exact made_reps hz0 _
end
section
variable {P : Program} {ops : Array Oper} {eff : Nat → Bool} {anc : Nat → Nat → Bool} {Qx : Exit → Act → World → Prop} {n : Nat} {l : List (Nat × Value)} {R : List Nat} {pend : Pend} {C : World → Prop} {w : World}
/-- Cells of an own block. -/
theorem Wd.runbs {w0 : World} {H : View} {L : Seg} {b off k : Nat} {arr : Array Value} {T : TypeId} {cs : List Value} {u : Value} {i d : Nat} {o : Oper} (ho : ops[i]? = some o) (he : eff i = false) (hd : o.dst = some d) (hdn : Nat.blt d n = true)
    (hx : ∀ (K : View) (L : Seg) (arr' : Array Value), (arr'.toList.drop off).take k = cs → Exv P n l (St w0 K ([(b, .cells arr' T (0, 0))] ++ L)) o u) (hu : (arr.toList.drop off).take k = cs) (hC : ∀ w, C w → St w0 H ([(b, .cells arr T (0, 0))] ++ L) w)
    (kk : ∀ p : (World → Prop) → Prop, (∀ (K : View) (L : Seg) (arr' : Array Value) (C' : World → Prop), (arr'.toList.drop off).take k = cs → (∀ w, C' w → St w0 K ([(b, .cells arr' T (0, 0))] ++ L) w) → p C') → Wd P ops eff anc Qx n ((d, u) :: l) R ((i, p) :: pend) C) : Wd P ops eff anc Qx n l (i :: R) pend C :=
  Wd.step ho he hd hdn ((hx H L arr hu).of hC) fun p hp => kk p fun K L arr' C' h1 hc => hp C' ((hx K L arr' h1).of hc)
end
section skipu
variable {P : Program} {ops : Array Oper} {Q : Exit → Act → World → Prop} {n : Nat} {l : List (Nat × Value)} {rest : List Oper} {o : Oper} {w : World} {C : World → Prop} {K : Act → Prop}
theorem guard_undef {a : Act} {j d : Nat} (ha : Fr n l a) (hj : (ops[j]?).bind (·.dst) = some d) (hv : lk l d = some undef) : yielded ops a.tmps j = none := by
  unfold yielded
  rw [hj, Option.bind_some, ha.val _ _ hv]
  rfl
/-- A guard that was itself passed over: the operation is passed over. -/
theorem WL.skip_u {d j dj : Nat} {want : Bool} (hg : o.guard = some (j, want)) (hj : (ops[j]?).bind (·.dst) = some dj) (hv : lk l dj = some undef)
    (hd : o.dst = some d) (hdn : Nat.blt d n = true) (k : WL P ops Q n ((d, undef) :: l) rest w) : WL P ops Q n l (o :: rest) w := fun a ha => wpList_step fun K hK => by
  rw [if_neg (by simp [Region.wanted, hg, guard_undef ha hj hv]), hd]
  exact hK _ _ (k _ (ha.put hdn undef))
theorem Wq.skip_u {d j dj : Nat} {want : Bool} (hg : o.guard = some (j, want)) (hj : (ops[j]?).bind (·.dst) = some dj) (hv : lk l dj = some undef)
    (hd : o.dst = some d) (hdn : Nat.blt d n = true) (k : Wq P ops C K n ((d, undef) :: l) rest) : Wq P ops C K n l (o :: rest) := fun a ha => wpQuiet_step fun K' hK => by
  rw [if_neg (by simp [Region.wanted, hg, guard_undef ha hj hv]), hd]
  exact hK _ (k _ (ha.put hdn undef))
end skipu
/-! ### Effects that stand in several orders -/
/-- An array, written out. -/
theorem ex_build_arr {P : Program} {n : Nat} {l : List (Nat × Value)} {C : World → Prop} {dst : Option Tmp} {ty : TypeId} {pos : String} {af : Array Edge} {gd : Option (Nat × Bool)} {t e : TypeId} {k size : Nat} {zero : Value} {zc cs : Array Value} {is : List Nat} {vs : List Value} {ps : List (Nat × Operand)}
    (ht : P.underlying t = some (.array k e)) (hs : ∀ w, (sizeOf e).run P w = .ok size w) (hz : ∀ w, (zeroValue t).run P w = .ok zero w)
    (hi : ps.map (·.1) = is) (hv : opvs l (ps.map (·.2)) vs) (hzc : zero.cells = zc) (hf : Instr.fill (fun i => some (i * size, size)) zc (is.zip vs) = some cs) :
    Exv P n l C ⟨dst, .build t ps.toArray, ty, pos, af, gd⟩ (.agg cs) := fun w _ a ha => by
  have he : ps.map (fun p => (p.1, a.eval p.2)) = is.zip vs := by
    have := ha.evals hv
    rw [← hi, ← this]
    clear hi hv hf this
    induction ps with
    | nil => rfl
    | cons p ps ih => simp [ih]
  simp [execOp, Instr.build, hz, run_underlying ht, hs, he, hzc, hf]
theorem ex_min3 {P : Program} {n : Nat} {l : List (Nat × Value)} {C : World → Prop} {dst : Option Tmp} {ty : TypeId} {pos : String} {af : Array Edge} {gd : Option (Nat × Bool)} {x y z : Operand} {p q r : Int} {ts : Array TypeId} (hx : opv l x = some (.int .i64 p)) (hy : opv l y = some (.int .i64 q)) (hz : opv l z = some (.int .i64 r)) :
    Exv P n l C ⟨dst, .call { callee := .builtin .min, args := #[x, y, z], argTypes := ts }, ty, pos, af, gd⟩ (.int .i64 (min (min p q) r)) := fun w _ a ha => by
  have h1 : (if q < p then q else p) = min p q := by omega
  have h2 : ∀ s, (if r < s then r else s) = min s r := fun s => by omega
  simp [execOp, resolve, invoke, builtin, Builtin.min_, Builtin.min2, ha.eval hx, ha.eval hy, ha.eval hz, h1, h2]
section fam
variable {P : Program} {ops : Array Oper} {eff : Nat → Bool} {Q : Act → World → Prop}
/-- An operation that never enters a function. -/
def noEnter : Op → Bool
  | .store .. => true
  | .alloc .. => true
  | .box .. => true
  | .buildSlice .. => true
  | .makeSlice .. => true
  | .makeMap .. => true
  | .call { callee := .builtin .append, .. } => true
  | _ => false
def plainNext : Next → Prop
  | .value _ => True
  | .skip => True
  | _ => False
theorem noEnter_spec {o : Oper} (h : noEnter o.op = true) {a : Act} {w w' : World} {r : Next} (hr : (execOp a.eval o).run P w = .ok r w') : plainNext r := by
  obtain ⟨d, op, ty, pos, af, gd⟩ := o
  have key : ∀ {α : Type} (x : Sem α) (f : α → Sem Next), (∀ v w w' r, (f v).run P w = .ok r w' → plainNext r) → (x >>= f).run P w = .ok r w' → plainNext r := by
    intro α x f hf hx
    rw [Sem.run_bind] at hx
    cases hxr : x.run P w with
    | ok v w1 => rw [hxr] at hx; exact hf _ _ _ _ hx
    | halt e w1 => rw [hxr] at hx; cases hx
  have kv : ∀ (v : Value) (w w' : World) (r : Next), (pure (.value v) : Sem Next).run P w = .ok r w' → plainNext r := by
    intro v w w' r h; simp only [Sem.run_pure] at h; cases h; trivial
  have ks : ∀ (u : Unit) (w w' : World) (r : Next), (pure .skip : Sem Next).run P w = .ok r w' → plainNext r := by
    intro v w w' r h; simp only [Sem.run_pure] at h; cases h; trivial
  cases op <;> simp only [noEnter, Bool.false_eq_true] at h
  case store => simp only [execOp] at hr; exact key _ _ ks hr
  case alloc => simp only [execOp] at hr; exact key _ _ kv hr
  case box => simp only [execOp] at hr; exact key _ _ kv hr
  case buildSlice => simp only [execOp] at hr; exact key _ _ kv hr
  case makeSlice => simp only [execOp] at hr; exact key _ _ kv hr
  case makeMap => simp only [execOp] at hr; exact key _ _ kv hr
  case call c =>
    obtain ⟨callee, args, ats⟩ := c
    cases callee <;> try (simp at h; done)
    rename_i b
    cases b <;> simp at h
    simp only [execOp, resolve, Sem.run_bind, Sem.run_pure, Result.andThen_ok, invoke, builtin] at hr
    generalize hx : (Builtin.append_ _ _ _).run P w = rr at hr
    cases rr with
    | ok v w1 => simp at hr; obtain ⟨rfl, rfl⟩ := hr; trivial
    | halt e w1 => simp [Result.andThen] at hr
def drRel2 (ops : Array Oper) (eff : Nat → Bool) (anc : Nat → Nat → Bool) (j i : Nat) : Bool :=
  (!(direct ops j).contains i) && (anc j i || (eff j && eff i) || (!eff j && (match ops[i]?, ops[j]? with | some oi, some oj => oi.apart ops oj | _, _ => false)))
/-- All orders of effects that are allowed. -/
def linB (anc : Nat → Nat → Bool) : Nat → List Nat → List (List Nat)
  | 0, _ => [[]]
  | k + 1, E => if E.isEmpty then [[]] else (E.filter (fun i => E.all fun j => Nat.beq i j || !anc j i)).flatMap fun i => (linB anc k (E.erase i)).map (i :: ·)
def IsLin (anc : Nat → Nat → Bool) (τ : List Nat) : Prop := τ.Pairwise fun i j => anc j i = false
theorem mem_linB {anc : Nat → Nat → Bool} : ∀ {k : Nat} {τ E : List Nat}, E.length ≤ k → τ.Perm E → IsLin anc τ → τ ∈ linB anc k E
  | 0, τ, E, hk, hp, _ => by
    have : E = [] := List.length_eq_zero_iff.1 (by omega)
    subst this
    have := List.perm_nil.1 hp
    subst this; simp [linB]
  | k + 1, [], E, hk, hp, _ => by
    have := List.nil_perm.1 hp
    subst this; simp [linB]
  | k + 1, i :: τ, E, hk, hp, hl => by
    have hi : i ∈ E := hp.mem_iff.1 (by simp)
    have hne : E.isEmpty = false := by cases E <;> simp at hi ⊢
    have hl' := List.pairwise_cons.1 hl
    simp only [linB, hne, Bool.false_eq_true, if_false, List.mem_flatMap, List.mem_filter, List.mem_map]
    refine ⟨i, ⟨hi, ?_⟩, τ, ?_, rfl⟩
    · rw [List.all_eq_true]
      intro j hj
      rcases List.mem_cons.1 (hp.mem_iff.2 hj) with rfl | hj
      · simp
      · simp [hl'.1 j hj]
    · have hp' : τ.Perm (E.erase i) := by
        have := hp.erase i
        simpa using this
      exact mem_linB (by rw [List.length_erase_of_mem hi]; omega) hp' hl'.2
def Effs (ops : Array Oper) (eff : Nat → Bool) (anc : Nat → Nat → Bool) (listed : Array Bool) (τ : List Nat) : Prop :=
  τ.Nodup ∧ (∀ i, i ∈ τ ↔ (i < ops.size ∧ listed.getD i false = false ∧ eff i = true)) ∧ IsLin anc τ
/-- Each order of what is left has a walk. -/
def Good (P : Program) (ops : Array Oper) (eff : Nat → Bool) (anc : Nat → Nat → Bool) (Q : Act → World → Prop) (listed : Array Bool) (a : Act) (w : World) : Prop :=
  ∀ τ : List Nat, Effs ops eff anc listed τ →
    ∃ (R : List Nat) (C : World → Prop), (∀ i, i ∈ R ↔ (i < ops.size ∧ listed.getD i false = false)) ∧ R.Nodup ∧ R.filter eff = τ ∧ R.Pairwise (fun j i => drRel2 ops eff anc j i = true) ∧ C w ∧ wpDr P ops eff anc Q R [] a C
theorem wpAny_of_good {anc : Nat → Nat → Bool} {Qx : Exit → Act → World → Prop} (hanc : ∀ (listed : Array Bool), (∀ i, listed.getD i false = true → ∀ e ∈ direct ops i, listed.getD e false = true) → ∀ j i, (∀ e ∈ direct ops i, listed.getD e false = true) → anc j i = true → listed.getD j false = true) (hsel : Region.noSelect ops = true) (hg : ∀ o ∈ ops, o.guard = none) (hno : ∀ i o, ops[i]? = some o → eff i = true → noEnter o.op = true)
    (hdir : ∀ i, ∀ e ∈ direct ops i, e < ops.size ∧ e ≠ i) : ∀ (m : Nat) (listed : Array Bool) (a : Act) (w : World), (∀ R : List Nat, (∀ i, i ∈ R ↔ (i < ops.size ∧ listed.getD i false = false)) → R.Nodup → R.length = m) → listed.size = ops.size →
    (∃ τ, Effs ops eff anc listed τ) → (∀ i, listed.getD i false = true → ∀ e ∈ direct ops i, listed.getD e false = true) →
    Good P ops eff anc (fun a w => Qx .normal a w) listed a w → wpAny P .any ops Qx m listed a w
  | m, listed, a, w, hcount, hsz, ⟨τ0, hτ0⟩, hdc, h => by
    obtain ⟨R, C, hmem, hnd, hfil, hpw, hw, hwp⟩ := h τ0 hτ0
    have hlen := hcount R hmem hnd
    have hready0 : Region.ready .any ops listed = [] → R = [] := by
      intro hr
      cases R with
      | nil => rfl
      | cons i R =>
        exfalso
        have hi := (hmem i).1 (by simp)
        have hio : ops[i]? = some ops[i] := Array.getElem?_eq_getElem hi.1
        have : i ∈ Region.ready .any ops listed := by
          rw [mem_ready]
          refine ⟨?_, ops[i], hio, fun e he hb => ?_⟩
          · have := hi.2
            rw [Array.getD_eq_getD_getElem?, Array.getElem?_eq_getElem (by omega)] at this ⊢
            simpa using this
          · have hem := mem_direct hio he hb
            cases hl : listed.getD e.on false with
            | true => rfl
            | false =>
              exfalso
              have h1 := hdir i e.on hem
              have h2 : e.on ∈ i :: R := (hmem e.on).2 ⟨h1.1, hl⟩
              rcases List.mem_cons.1 h2 with h2 | h2
              · exact h1.2 h2
              · have h3 := (List.pairwise_cons.1 hpw).1 _ h2
                simp only [drRel2, Bool.and_eq_true, Bool.not_eq_true', List.contains_eq_mem, decide_eq_false_iff_not] at h3
                exact h3.1 hem
        rw [hr] at this; cases this
    have hQ : Region.ready .any ops listed = [] → Qx .normal a w := by
      intro hr
      have := hready0 hr
      subst this
      exact hwp w hw
    cases m with
    | zero =>
      have : R = [] := List.length_eq_zero_iff.1 hlen
      subst this
      have hr : Region.ready .any ops listed = [] := by
        cases hr : Region.ready .any ops listed with
        | nil => rfl
        | cons i r =>
          have hi : i ∈ Region.ready .any ops listed := by rw [hr]; simp
          obtain ⟨h1, o, ho, _⟩ := mem_ready.1 hi
          have hlt := (Array.getElem?_eq_some_iff.1 ho).1
          have := (hmem i).2 ⟨hlt, by
            rw [Array.getD_eq_getD_getElem?, Array.getElem?_eq_getElem (by omega)] at h1 ⊢
            simpa using h1⟩
          cases this
      exact ⟨hr, hQ hr⟩
    | succ m =>
      refine ⟨hQ, fun i hi => ?_⟩
      obtain ⟨h1, oi, ho, hall⟩ := mem_ready.1 hi
      have hlt := (Array.getElem?_eq_some_iff.1 ho).1
      have hlf : listed.getD i false = false := by
        rw [Array.getD_eq_getD_getElem?, Array.getElem?_eq_getElem (by omega)] at h1 ⊢
        simpa using h1
      have hdl : ∀ e ∈ direct ops i, listed.getD e false = true := fun e he => by
        obtain ⟨o', ed, g1, g2, g3, g4⟩ := direct_mem he
        rw [ho] at g1; cases g1
        rw [← g4]; exact hall ed g2 g3
      have hna : ∀ j, (j < ops.size ∧ listed.getD j false = false) → anc j i = false := by
        intro j hj
        cases hb : anc j i with
        | false => rfl
        | true => rw [hanc listed hdc j i hdl hb] at hj; cases hj.2
      have hsi : noSel oi := fun cs b => Region.noSelect_spec hsel i oi cs b ho
      have hwant : ∀ l, Region.wanted oi l = true := fun l => by
        have := hg oi (Array.mem_of_getElem? ho)
        simp [Region.wanted, this]
      have hgd : ∀ j, (listed.setIfInBounds i true).getD j false = if i = j then true else listed.getD j false := by
        intro j
        rw [Array.getD_eq_getD_getElem?, Array.getElem?_setIfInBounds, Array.getD_eq_getD_getElem?]
        split
        · rename_i e; subst e; simp [hsz, hlt]
        · rfl
      have hun : ∀ j, (j < ops.size ∧ (listed.setIfInBounds i true).getD j false = false) ↔ (j ≠ i ∧ j < ops.size ∧ listed.getD j false = false) := by
        intro j; rw [hgd]
        by_cases hij : i = j
        · subst hij; simp
        · simp [hij]; intro _ _; exact fun e => hij e.symm
      have hcount' : ∀ R : List Nat, (∀ j, j ∈ R ↔ (j < ops.size ∧ (listed.setIfInBounds i true).getD j false = false)) → R.Nodup → R.length = m := by
        intro R' hR hRn
        have := hcount (i :: R') (fun j => by
          rw [List.mem_cons, hR, hun]
          by_cases hij : j = i
          · subst hij; simp [hlt, hlf]
          · simp [hij]) (List.nodup_cons.2 ⟨fun hin => ((hun i).1 ((hR i).1 hin)).1 rfl, hRn⟩)
        simpa using this
      have hdc' : ∀ j, (listed.setIfInBounds i true).getD j false = true → ∀ e ∈ direct ops j, (listed.setIfInBounds i true).getD e false = true := by
        intro j hj e he
        rw [hgd] at hj ⊢
        split
        · rfl
        · split at hj
          · rename_i e'; subst e'; exact hdl e he
          · exact hdc j hj e he
      -- the walk of an order, with this operation pulled to the front
      have pull : ∀ (R : List Nat), (∀ j, j ∈ R ↔ (j < ops.size ∧ listed.getD j false = false)) → R.Nodup → R.Pairwise (fun j i => drRel2 ops eff anc j i = true) → ∀ L1 L2, R = L1 ++ i :: L2 → (eff i = true → ∀ j ∈ L1, eff j = false) →
          (∀ j ∈ L1, eff j = false ∧ anc j i = false ∧ ∀ oj, ops[j]? = some oj → noSel oj ∧ oi.apart ops oj = true) ∧ (∀ j, j ∈ L1 ++ L2 ↔ (j < ops.size ∧ (listed.setIfInBounds i true).getD j false = false)) ∧ (L1 ++ L2).Nodup ∧ (L1 ++ L2).Pairwise (fun j i => drRel2 ops eff anc j i = true) := by
        intro R hm hn hp L1 L2 e hE
        subst e
        refine ⟨fun j hj => ?_, fun j => ?_, ?_, ?_⟩
        · have hju := (hm j).1 (List.mem_append_left _ hj)
          have hr := (List.pairwise_append.1 hp).2.2 j hj i (by simp)
          have hanc := hna j hju
          simp only [drRel2, hanc, Bool.false_or, Bool.and_eq_true, Bool.not_eq_true', Bool.or_eq_true] at hr
          have hej : eff j = false := by
            cases he : eff i with
            | true => exact hE he j hj
            | false =>
              rcases hr.2 with h | h
              · rw [he] at h; cases h.2
              · exact h.1
          refine ⟨hej, hanc, fun oj hoj => ⟨fun cs b => Region.noSelect_spec hsel j oj cs b hoj, ?_⟩⟩
          rcases hr.2 with h | h
          · rw [hej] at h; cases h.1
          · have := h.2; rw [ho, hoj] at this; exact this
        · rw [hun, ← hm]
          have hnin := hn
          rw [List.nodup_append] at hnin
          constructor
          · intro hj
            refine ⟨?_, by rcases List.mem_append.1 hj with hj | hj <;> simp [hj]⟩
            rintro rfl
            rcases List.mem_append.1 hj with hj | hj
            · exact (hnin.2.2 j hj j (by simp)) rfl
            · exact (List.nodup_cons.1 hnin.2.1).1 hj
          · rintro ⟨hne, hj⟩
            rcases List.mem_append.1 hj with hj | hj
            · simp [hj]
            · rcases List.mem_cons.1 hj with hj | hj
              · exact absurd hj hne
              · simp [hj]
        · exact hn.sublist (List.Sublist.append (List.Sublist.refl _) (List.sublist_cons_self _ _))
        · exact hp.sublist (List.Sublist.append (List.Sublist.refl _) (List.sublist_cons_self _ _))
      unfold wpOp
      rw [ho]
      simp only [hwant, if_true]
      left
      cases he : eff i with
      | false =>
        have hsplit : ∀ R : List Nat, (∀ j, j ∈ R ↔ (j < ops.size ∧ listed.getD j false = false)) → ∃ L1 L2, R = L1 ++ i :: L2 := fun R hm => List.append_of_mem ((hm i).2 ⟨hlt, hlf⟩)
        have hE : eff i = true → ∀ (L : List Nat), ∀ j ∈ L, eff j = false := fun h => by rw [he] at h; cases h
        obtain ⟨L1, L2, e⟩ := hsplit R hmem
        obtain ⟨p1, p2, p3, p4⟩ := pull R hmem hnd hpw L1 L2 e (fun h => hE h L1)
        subst e
        obtain ⟨v, g1, g2⟩ := wpDr_quiet ho he hsi (fun j hj => ⟨(p1 j hj).1, (p1 j hj).2.2⟩) hwp
        unfold Oper.wp
        rw [g1 w hw, Oper.upon_value]
        have hEff : ∀ τ, Effs ops eff anc (listed.setIfInBounds i true) τ → Effs ops eff anc listed τ := by
          rintro τ ⟨t1, t2, t3⟩
          refine ⟨t1, fun j => ?_, t3⟩
          rw [t2, ← and_assoc, hun, and_assoc]
          constructor
          · rintro ⟨_, h2, h3⟩; exact ⟨h2.1, h2.2, h3⟩
          · rintro ⟨h1, h2, h3⟩
            refine ⟨?_, ⟨h1, h2⟩, h3⟩
            rintro rfl; rw [he] at h3; cases h3
        refine wpAny_of_good hanc hsel hg hno hdir m _ _ _ hcount' (by simp [hsz]) ⟨τ0, ?_⟩ hdc' ?_
        · obtain ⟨t1, t2, t3⟩ := hτ0
          refine ⟨t1, fun j => ?_, t3⟩
          rw [t2, ← and_assoc, ← and_assoc, hun]
          constructor
          · rintro ⟨⟨h1, h2⟩, h3⟩
            refine ⟨⟨?_, h1, h2⟩, h3⟩
            rintro rfl; rw [he] at h3; cases h3
          · rintro ⟨⟨_, h1, h2⟩, h3⟩; exact ⟨⟨h1, h2⟩, h3⟩
        · intro τ hτ
          obtain ⟨R', C', m1, m2, m3, m4, m5, m6⟩ := h τ (hEff τ hτ)
          obtain ⟨M1, M2, e⟩ := hsplit R' m1
          obtain ⟨q1, q2, q3, q4⟩ := pull R' m1 m2 m4 M1 M2 e (fun h => hE h M1)
          subst e
          obtain ⟨v', g1', g2'⟩ := wpDr_quiet ho he hsi (fun j hj => ⟨(q1 j hj).1, (q1 j hj).2.2⟩) m6
          have hv : v' = v := by
            have e1 := g1 w hw
            have e2 := g1' w m5
            rw [e1] at e2; cases e2; rfl
          subst hv
          refine ⟨M1 ++ M2, C', q2, q3, ?_, q4, m5, g2'⟩
          rw [← m3, List.filter_append, List.filter_append, List.filter_cons_of_neg (by rw [he]; simp)]
      | true =>
        have hEff : ∀ τ, Effs ops eff anc (listed.setIfInBounds i true) τ → Effs ops eff anc listed (i :: τ) := by
          rintro τ ⟨t1, t2, t3⟩
          refine ⟨List.nodup_cons.2 ⟨fun hin => ?_, t1⟩, fun j => ?_, List.pairwise_cons.2 ⟨fun j hj => ?_, t3⟩⟩
          · have := (t2 i).1 hin
            exact ((hun i).1 ⟨this.1, this.2.1⟩).1 rfl
          · rw [List.mem_cons, t2, ← and_assoc, hun, and_assoc]
            by_cases hji : j = i
            · subst hji; simp [hlt, hlf, he]
            · simp [hji, and_assoc]
          · have := (t2 j).1 hj
            exact hna j (((hun j).1 ⟨this.1, this.2.1⟩).2)
        have hτ1 : ∃ τ, Effs ops eff anc (listed.setIfInBounds i true) τ := by
          obtain ⟨t1, t2, t3⟩ := hτ0
          refine ⟨τ0.erase i, t1.erase i, fun j => ?_, t3.sublist List.erase_sublist⟩
          rw [List.Nodup.mem_erase_iff t1, t2]
          have hj := hun j
          constructor
          · rintro ⟨h1, h2, h3, h4⟩; exact ⟨h2, (hj.2 ⟨h1, h2, h3⟩).2, h4⟩
          · rintro ⟨h1, h2, h3⟩
            have h4 := hj.1 ⟨h1, h2⟩
            exact ⟨h4.1, h4.2.1, h4.2.2, h3⟩
        obtain ⟨o', hoo, hno'⟩ : ∃ o', ops[i]? = some o' ∧ noEnter o'.op = true := ⟨oi, ho, hno i oi ho he⟩
        rw [ho] at hoo; cases hoo
        have step : ∀ τ, Effs ops eff anc (listed.setIfInBounds i true) τ → ∃ R' : List Nat, (∀ j, j ∈ R' ↔ (j < ops.size ∧ (listed.setIfInBounds i true).getD j false = false)) ∧ R'.Nodup ∧ R'.filter eff = τ ∧ R'.Pairwise (fun j i => drRel2 ops eff anc j i = true) ∧
            effAt P oi a w (fun v w' => ∃ C', C' w' ∧ wpDr P ops eff anc (fun a w => Qx .normal a w) R' [] (a.put oi.dst v) C') := by
          intro τ hτ
          obtain ⟨R', C', m1, m2, m3, m4, m5, m6⟩ := h (i :: τ) (hEff τ hτ)
          obtain ⟨M1, M2, e, f1, f2, f3⟩ := List.filter_eq_cons_iff.1 m3
          obtain ⟨q1, q2, q3, q4⟩ := pull R' m1 m2 m4 M1 M2 e (fun _ j hj => by simpa using f1 j hj)
          subst e
          refine ⟨M1 ++ M2, q2, q3, ?_, q4, ?_⟩
          · rw [List.filter_append, f3]
            have : M1.filter eff = [] := List.filter_eq_nil_iff.2 (fun j hj => f1 j hj)
            rw [this, List.nil_append]
          · refine effAt_mono ?_ (wpDr_eff ho he hsi q1 m5 m6)
            rintro v w' ⟨C'', c1, _, c3⟩
            exact ⟨C'', c1, c3⟩
        obtain ⟨τ1, hτ1⟩ := hτ1
        obtain ⟨_, _, _, _, _, g0⟩ := step τ1 hτ1
        unfold Oper.wp
        have hne := fun r w' => noEnter_spec (P := P) hno' (a := a) (w := w) (w' := w') (r := r)
        have go : ∀ v w', (∀ τ, Effs ops eff anc (listed.setIfInBounds i true) τ → ∃ R' : List Nat, (∀ j, j ∈ R' ↔ (j < ops.size ∧ (listed.setIfInBounds i true).getD j false = false)) ∧ R'.Nodup ∧ R'.filter eff = τ ∧ R'.Pairwise (fun j i => drRel2 ops eff anc j i = true) ∧
            ∃ C', C' w' ∧ wpDr P ops eff anc (fun a w => Qx .normal a w) R' [] (a.put oi.dst v) C') → wpAny P .any ops Qx m (listed.setIfInBounds i true) (a.put oi.dst v) w' := by
          intro v w' hall
          refine wpAny_of_good hanc hsel hg hno hdir m _ _ _ hcount' (by simp [hsz]) ⟨τ1, hτ1⟩ hdc' fun τ hτ => ?_
          obtain ⟨R', r1, r2, r3, r4, C', r5, r6⟩ := hall τ hτ
          exact ⟨R', C', r1, r2, r3, r4, r5, r6⟩
        unfold effAt at step g0
        generalize (execOp a.eval oi).run P w = r at *
        cases r with
        | ok nx w' =>
          have hp := hne nx w' rfl
          cases nx <;> simp only at g0
          case value v => rw [Oper.upon_value]; exact go v w' step
          case skip => rw [Oper.upon_skip]; exact go undef w' step
          case enter f args => exact hp.elim
          case row row args => exact hp.elim
        | halt x w' => exact g0.elim
def sigB (ops : Array Oper) (eff : Nat → Bool) (anc : Nat → Nat → Bool) (σ : List Nat) : Bool :=
  (List.range ops.size).all (fun i => σ.contains i) && Nat.beq σ.length ops.size && σ.all (fun i => Nat.blt i ops.size) && pairsB (fun j i => !Nat.beq j i) σ && pairsB (drRel2 ops eff anc) σ
def drawsB (ops : Array Oper) (eff : Nat → Bool) (anc : Nat → Nat → Bool) (σs : List (List Nat)) : Bool :=
  Region.noSelect ops && ops.all (fun o => o.guard.isNone) && (List.range ops.size).all (fun i => (direct ops i).all fun e => Nat.blt e ops.size && !Nat.beq e i) &&
  (List.range ops.size).all (fun i => !eff i || (match ops[i]? with | some o => noEnter o.op | none => true)) && σs.all (sigB ops eff anc) && !σs.isEmpty &&
  (linB anc ops.size ((List.range ops.size).filter eff)).all (fun τ => (σs.map (·.filter eff)).contains τ) && σs.all (fun σ => (linB anc ops.size ((List.range ops.size).filter eff)).contains (σ.filter eff)) && pairsB (fun i j => true) (List.range ops.size)
theorem linB_lin {anc : Nat → Nat → Bool} : ∀ {k : Nat} {τ E : List Nat}, E.length ≤ k → E.Nodup → τ ∈ linB anc k E → τ.Perm E ∧ IsLin anc τ
  | 0, τ, E, hk, hn, h => by
    have : E = [] := List.length_eq_zero_iff.1 (by omega)
    subst this
    simp [linB] at h; subst h; exact ⟨List.Perm.refl _, List.Pairwise.nil⟩
  | k + 1, τ, E, hk, hn, h => by
    unfold linB at h
    split at h
    · rename_i he
      simp at he h; subst he; subst h; exact ⟨List.Perm.refl _, List.Pairwise.nil⟩
    · rw [List.mem_flatMap] at h
      obtain ⟨i, hi, h⟩ := h
      rw [List.mem_filter, List.all_eq_true] at hi
      rw [List.mem_map] at h
      obtain ⟨τ', h1, rfl⟩ := h
      obtain ⟨g1, g2⟩ := linB_lin (by rw [List.length_erase_of_mem hi.1]; omega) (hn.erase i) h1
      refine ⟨(g1.cons i).trans (List.perm_cons_erase hi.1).symm, List.pairwise_cons.2 ⟨fun j hj => ?_, g2⟩⟩
      have hjE := (List.Nodup.mem_erase_iff hn).1 (g1.mem_iff.1 hj)
      have := hi.2 j hjE.2
      simp only [Bool.or_eq_true, Bool.not_eq_true'] at this
      rcases this with h | h
      · exact absurd (Nat.eq_of_beq_eq_true h).symm hjE.1
      · exact h
theorem wp_region_drs {id : Nat} {tbl : List (List Nat)} {Qx : Exit → Act → World → Prop} {a : Act} {w : World} {σs : List (List Nat)} {C : World → Prop} (hm : P.follows .mixedOrders = true) (hB : (drawsB ops eff (ancT tbl) σs && tabB ops tbl (σs.headD [])) = true) (hC : C { w with drawn := w.drawn + 1 })
    (h : ∀ σ ∈ σs, wpDr P ops eff (ancT tbl) (fun a w => Qx .normal a w) σ [] a C) : (Code.region id ops true).wp P Qx a w := by
  rw [Bool.and_eq_true] at hB
  obtain ⟨hB, hT⟩ := hB
  simp only [drawsB, Bool.and_eq_true, List.all_eq_true, List.mem_range] at hB
  obtain ⟨⟨⟨⟨⟨⟨⟨⟨h1, h2⟩, h3⟩, h4⟩, h5⟩, h6⟩, h7⟩, h8⟩, _⟩ := hB
  have hg0 : ∀ i, (Array.replicate ops.size false).getD i false = false := fun i => by
    rw [Array.getD_eq_getD_getElem?, Array.getElem?_replicate]; split <;> rfl
  have hEn : ((List.range ops.size).filter eff).Nodup := List.nodup_range.filter _
  have hEl : ((List.range ops.size).filter eff).length ≤ ops.size := by
    have := List.length_filter_le eff (List.range ops.size); simpa using this
  have hEm : ∀ i, i ∈ (List.range ops.size).filter eff ↔ (i < ops.size ∧ eff i = true) := fun i => by simp [List.mem_filter]
  have hsig : ∀ σ ∈ σs, (∀ i, i ∈ σ ↔ i < ops.size) ∧ σ.length = ops.size ∧ σ.Nodup ∧ σ.Pairwise (fun j i => drRel2 ops eff (ancT tbl) j i = true) := by
    intro σ hσ
    have := h5 σ hσ
    simp only [sigB, Bool.and_eq_true, List.all_eq_true, List.mem_range, Nat.blt_eq] at this
    obtain ⟨⟨⟨⟨s1, s2⟩, s3⟩, s4⟩, s5⟩ := this
    refine ⟨fun i => ⟨fun hi => s3 i hi, fun hi => by have := s1 i hi; simpa using this⟩, Nat.eq_of_beq_eq_true s2, ?_, pairsB_spec s5⟩
    refine List.Pairwise.imp ?_ (pairsB_spec s4)
    intro x y hxy e
    subst e; simp at hxy
  refine wp_region_any hm ?_
  refine wpAny_of_good (P := P) (ops := ops) (eff := eff) (anc := ancT tbl) (Qx := Qx) (fun listed hd => ancT_listed hT hd) h1 (fun o ho => ?_) (fun i o ho he => ?_) (fun i e he => ?_) ops.size (Array.replicate ops.size false) a _ (fun R hR hRn => ?_) (by simp) ?_ (fun i hi => by rw [hg0] at hi; cases hi) ?_
  · have := Array.all_eq_true_iff_forall_mem.1 h2 o ho
    simpa using this
  · have hlt := (Array.getElem?_eq_some_iff.1 ho).1
    have := h4 i hlt
    simp only [he, ho, Bool.not_true, Bool.false_or] at this
    exact this
  · have hi : i < ops.size := by
      obtain ⟨o, _, ho, _⟩ := direct_mem he
      exact (Array.getElem?_eq_some_iff.1 ho).1
    have := h3 i hi e he
    simp only [Bool.and_eq_true, Bool.not_eq_true', Nat.blt_eq] at this
    refine ⟨this.1, fun e' => ?_⟩
    have h9 := this.2
    rw [e'] at h9; simp at h9
  · have hp : R.Perm (List.range ops.size) := (List.perm_ext_iff_of_nodup hRn List.nodup_range).2 fun i => by rw [hR, List.mem_range, hg0]; simp
    have := hp.length_eq; simpa using this
  · cases σs with
    | nil => simp at h6
    | cons σ σs =>
      have := h8 σ (by simp)
      have hin : σ.filter eff ∈ linB (ancT tbl) ops.size ((List.range ops.size).filter eff) := by simpa using this
      obtain ⟨p1, p2⟩ := linB_lin hEl hEn hin
      exact ⟨σ.filter eff, p1.nodup_iff.2 hEn, fun i => by rw [p1.mem_iff, hEm, hg0]; simp, p2⟩
  · rintro τ ⟨t1, t2, t3⟩
    have hp : τ.Perm ((List.range ops.size).filter eff) := (List.perm_ext_iff_of_nodup t1 hEn).2 fun i => by rw [t2, hEm, hg0]; simp
    have hin := mem_linB hEl hp t3
    have := h7 τ hin
    have : τ ∈ σs.map (·.filter eff) := by simpa using this
    obtain ⟨σ, hσ, rfl⟩ := List.mem_map.1 this
    obtain ⟨s1, s2, s3, s4⟩ := hsig σ hσ
    exact ⟨σ, C, fun i => by rw [s1, hg0]; simp, s3, rfl, s4, hC, h σ hσ⟩
end fam
def Wds (P : Program) (ops : Array Oper) (eff : Nat → Bool) (anc : Nat → Nat → Bool) (Qx : Exit → Act → World → Prop) (n : Nat) (l : List (Nat × Value)) (C : World → Prop) : List (List Nat) → Prop
  | [] => True
  | σ :: σs => Wd P ops eff anc Qx n l σ [] C ∧ Wds P ops eff anc Qx n l C σs
theorem WC.drawns {P : Program} {Qx : Exit → Act → World → Prop} {n : Nat} {l : List (Nat × Value)} {C : World → Prop} {w : World} {id : Nat} (tbl : List (List Nat)) {ol : List Oper} (effs : List Nat) (σs : List (List Nat)) (hm : P.follows .mixedOrders = true) (hB : (drawsB ol.toArray (fun i => effs.contains i) (ancT tbl) σs && tabB ol.toArray tbl (σs.headD [])) = true) (hC : C { w with drawn := w.drawn + 1 })
    (h : Wds P ol.toArray (fun i => effs.contains i) (ancT tbl) Qx n l C σs) : WC P Qx n l (.region id ol.toArray true) w := fun a ha => wp_region_drs hm hB hC (by
  have : ∀ (σs' : List (List Nat)), Wds P ol.toArray (fun i => effs.contains i) (ancT tbl) Qx n l C σs' → ∀ σ ∈ σs', wpDr P ol.toArray (fun i => effs.contains i) (ancT tbl) (fun a w => Qx .normal a w) σ [] a C := by
    intro σs'
    induction σs' with
    | nil => intro _ σ hσ; cases hσ
    | cons σ0 σs' ih =>
      rintro ⟨g1, g2⟩ σ hσ
      rcases List.mem_cons.1 hσ with rfl | hσ
      · exact g1 a ha
      · exact ih g2 σ hσ
  exact this σs h)
end Go.Vc
