/- Maps that are owned: an object of entries; lookup, update, delete, clear, ranges over them; more orders of segments; more arithmetic. -/
import Derived.Test.YtmdoicffgeihcaaGreatDoorElem
import Derived.MapKept
import Derived.WideKeyRuns
import Derived.Maps.RangeRun
import Derived.Laws.StructEq
set_option linter.unusedVariables false
set_option linter.unusedSimpArgs false
namespace Go.Vc
open Go

/-! ### Maps as plain data -/
section
variable {κ ν : Type} [DecidableEq κ]
def mfind : List (κ × ν) → κ → Option ν
  | [], _ => none
  | p :: m, k => if k = p.1 then some p.2 else mfind m k
def mhas (m : List (κ × ν)) (k : κ) : Bool := (mfind m k).isSome
def mgetD (m : List (κ × ν)) (k : κ) (d : ν) : ν := (mfind m k).getD d
def mset : List (κ × ν) → κ → ν → List (κ × ν)
  | [], k, v => [(k, v)]
  | p :: m, k, v => if k = p.1 then (k, v) :: m else p :: mset m k v
def mdel : List (κ × ν) → κ → List (κ × ν)
  | [], _ => []
  | p :: m, k => if k = p.1 then m else p :: mdel m k
end

/-- A key's type: what of the model a key is. -/
structure KC (κ : Type) where
  enc : κ → Value
  ok : κ → Prop
  inj : ∀ {a b : κ}, enc a = enc b → a = b
  same : ∀ a : κ, Instr.sameBits 10000 (enc a) (enc a) = true
def kInt : KC Int where
  enc := fun x => .int .i64 x
  ok := I64
  inj := fun h => by cases h; rfl
  same := fun a => by simp [Instr.sameBits]
def kTri : KC (Int × Int × Int) where
  enc := fun x => .agg #[.int .i64 x.1, .int .i64 x.2.1, .int .i64 x.2.2]
  ok := fun x => I64 x.1 ∧ I64 x.2.1 ∧ I64 x.2.2
  inj := fun {a b} h => by obtain ⟨a1, a2, a3⟩ := a; obtain ⟨b1, b2, b3⟩ := b; simp at h; obtain ⟨rfl, rfl, rfl⟩ := h; rfl
  same := fun a => by simp [Instr.sameBits]

/-- Where a key stands among entries of these keys. -/
def fnde {κ : Type} [DecidableEq κ] (x : κ) : List κ → List MapEntry → Nat → Option (Nat × Value)
  | k :: ks, e :: es, i => if x = k then some (i, e.val) else fnde x ks es (i + 1)
  | _, _, _ => none
structure KeyOK {κ : Type} [DecidableEq κ] (P : Program) (kt : TypeId) (kc : KC κ) : Prop where
  check : ∀ (em : Bool) (x : κ) (w : World), (Instr.checkKey em 10000 kt (kc.enc x)).run P w = .ok () w
  find : ∀ (x : κ) (es : List MapEntry) (ks : List κ) (w : World), es.map (·.key) = ks.map kc.enc → (Instr.findKey kt (kc.enc x) es).run P w = .ok (fnde x ks es 0) w
theorem findAsking_ok {κ : Type} [DecidableEq κ] {P : Program} {kt : TypeId} {kc : KC κ} (heq : ∀ (a b : κ) (w : World), (Op.equal kt (kc.enc a) (kc.enc b)).run P w = .ok (decide (a = b)) w) (x : κ) (w : World) :
    ∀ (es : List MapEntry) (ks : List κ) (i : Nat), es.map (·.key) = ks.map kc.enc → (Instr.findAsking kt (kc.enc x) es i).run P w = .ok (fnde x ks es i) w
  | [], [], i, _ => by simp [Instr.findAsking, fnde]
  | e :: es, k :: ks, i, h => by
    simp only [List.map_cons, List.cons.injEq] at h
    obtain ⟨h1, h2⟩ := h
    unfold Instr.findAsking fnde
    rw [h1]
    by_cases hx : x = k
    · simp [heq, hx]
    · simp [heq, hx, findAsking_ok heq x w es ks (i + 1) h2]
  | [], _ :: _, _, h => by simp at h
  | _ :: _, [], _, h => by simp at h
theorem KeyOK.int {P : Program} {kt : TypeId} (h : P.underlying kt = some (.int .i64)) : KeyOK P kt kInt where
  check := fun em x w => MapKept.run_checkKey h (by simp [MapKept.IsKey, kInt]) em 9999
  find := fun x es ks w hk => by
    have key : ∀ (es : List MapEntry) (ks : List Int) (i : Nat), es.map (·.key) = ks.map kInt.enc → Instr.findNow (.int .i64) (kInt.enc x) es i = some (fnde x ks es i) := by
      intro es
      induction es with
      | nil => intro ks i h; cases ks with
        | nil => rfl
        | cons _ _ => simp at h
      | cons e es ih => intro ks i h; cases ks with
        | nil => simp at h
        | cons k ks =>
          simp only [List.map_cons, List.cons.injEq] at h
          obtain ⟨h1, h2⟩ := h
          unfold Instr.findNow fnde
          have : Instr.sameNow (.int .i64) (kInt.enc x) e.key = some (x == k) := by rw [h1]; simp [kInt, Instr.sameNow]
          rw [this]
          by_cases hx : x = k
          · simp [hx]
          · have : (x == k) = false := by simp [hx]
            simp [this, hx, ih ks (i + 1) h2]
    exact MapKept.run_findKey h (key es ks 0 hk)
theorem run_part_int {P : Program} {t : TypeId} (ht : P.underlying t = some (.int .i64)) {w : World} {xs : Array Value} {off : Nat} {v : Value} (hag : ∀ w, (isAgg t).run P w = .ok false w) (h : xs[off]? = some v) : (part t xs off).run P w = .ok v w := by
  simp [part, hag, h]
theorem KeyOK.struct {P : Program} {kt : TypeId} {f0 f1 f2 : Field} (hu : P.underlying kt = some (.struct #[f0, f1, f2])) (hp : P.stoodInHeld kt = false) (n0 : f0.name ≠ "_") (n1 : f1.name ≠ "_") (n2 : f2.name ≠ "_")
    (o0 : f0.offset = 0) (o1 : f1.offset = 1) (o2 : f2.offset = 2) (u0 : P.underlying f0.type = some (.int .i64)) (u1 : P.underlying f1.type = some (.int .i64)) (u2 : P.underlying f2.type = some (.int .i64))
    (a0 : ∀ w, (isAgg f0.type).run P w = .ok false w) (a1 : ∀ w, (isAgg f1.type).run P w = .ok false w) (a2 : ∀ w, (isAgg f2.type).run P w = .ok false w) : KeyOK P kt kTri := by
  have hpt : ∀ (f : Field) (x : Int × Int × Int) (w : World) (j : Nat) (v : Value), (∀ w, (isAgg f.type).run P w = .ok false w) → f.offset = j → (#[Value.int .i64 x.1, .int .i64 x.2.1, .int .i64 x.2.2] : Array Value)[j]? = some v →
      (part f.type #[Value.int .i64 x.1, .int .i64 x.2.1, .int .i64 x.2.2] f.offset).run P w = .ok v w := by
    intro f x w j v hag ho hv
    subst ho
    simp [part, hag, hv]
  refine ⟨fun em x w => ?_, fun x es ks w hk => ?_⟩
  · have hc : ∀ (t : TypeId) (a : Int) (n : Nat), P.underlying t = some (.int .i64) → (Instr.checkKey em (n + 1) t (.int .i64 a)).run P w = .ok () w := fun t a n h => MapKept.run_checkKey h (by simp [MapKept.IsKey]) em n
    show (Instr.checkKey em (9999 + 1) kt (kTri.enc x)).run P w = _
    unfold Instr.checkKey
    simp only [Sem.run_bind, run_underlying hu, Result.andThen_ok, kTri]
    rw [← Array.forIn_toList]
    simp [List.forIn_cons, n0, n1, n2, hpt f0 x w 0 (.int .i64 x.1) a0 o0 rfl, hpt f1 x w 1 (.int .i64 x.2.1) a1 o1 rfl, hpt f2 x w 2 (.int .i64 x.2.2) a2 o2 rfl, hc f0.type x.1 9998 u0, hc f1.type x.2.1 9998 u1, hc f2.type x.2.2 9998 u2]
  · rw [run_findKey_eq w (by simp [hu])]
    refine findAsking_ok (kc := kTri) (fun a b w => ?_) x w es ks 0 hk
    have hf : P.fieldsOf kt = #[f0, f1, f2] := by simp [Program.fieldsOf, hu]
    have := run_equalIn_struct (P := P) w 9999 kt #[.int .i64 a.1, .int .i64 a.2.1, .int .i64 a.2.2] #[.int .i64 b.1, .int .i64 b.2.1, .int .i64 b.2.2] (by rw [hf]; exact hu) hp
    show (Op.equalIn (9999 + 1) kt _ _).run P w = _
    refine this.trans ?_
    rw [hf]
    have hE : ∀ (t : TypeId) (a b : Int) (w : World), P.underlying t = some (.int .i64) → (Op.equalIn 9999 t (.int .i64 a) (.int .i64 b)).run P w = .ok (a == b) w := fun t a b w h => run_equalIn_int w 9998 t .i64 .i64 a b h
    simp only [Op.eqFields, Sem.run_bind, n0, n1, n2, ne_eq, not_false_eq_true, if_true, hpt f0 a w 0 (.int .i64 a.1) a0 o0 rfl, hpt f0 b w 0 (.int .i64 b.1) a0 o0 rfl, hpt f1 a w 1 (.int .i64 a.2.1) a1 o1 rfl, hpt f1 b w 1 (.int .i64 b.2.1) a1 o1 rfl, hpt f2 a w 2 (.int .i64 a.2.2) a2 o2 rfl, hpt f2 b w 2 (.int .i64 b.2.2) a2 o2 rfl,
      Result.andThen_ok, hE f0.type _ _ _ u0, hE f1.type _ _ _ u1, hE f2.type _ _ _ u2, Sem.run_ite, Sem.run_pure]
    obtain ⟨a1, a2, a3⟩ := a
    obtain ⟨b1, b2, b3⟩ := b
    simp only [Prod.mk.injEq]
    by_cases h1 : a1 = b1 <;> by_cases h2 : a2 = b2 <;> by_cases h3 : a3 = b3 <;> simp [h1, h2, h3]
theorem KeyOK.array {P : Program} {kt e : TypeId} {i : TypeInfo} (hu : P.underlying kt = some (.array 3 e)) (he : P.underlying e = some (.int .i64)) (hi : P.info? e = some i) (hs1 : ∀ w, (sizeOf e).run P w = .ok 1 w) (hc1 : P.cellsOf e = 1) (ag : ∀ w, (isAgg e).run P w = .ok false w) : KeyOK P kt kTri := by
  have hpt : ∀ (x : Int × Int × Int) (w : World) (j : Nat) (v : Value), (#[Value.int .i64 x.1, .int .i64 x.2.1, .int .i64 x.2.2] : Array Value)[j]? = some v →
      (part e #[Value.int .i64 x.1, .int .i64 x.2.1, .int .i64 x.2.2] j).run P w = .ok v w := by
    intro x w j v hv
    simp [part, ag, hv]
  refine ⟨fun em x w => ?_, fun x es ks w hk => ?_⟩
  · have hc : ∀ (a : Int) (n : Nat), (Instr.checkKey em (n + 1) e (.int .i64 a)).run P w = .ok () w := fun a n => MapKept.run_checkKey he (by simp [MapKept.IsKey]) em n
    show (Instr.checkKey em (9999 + 1) kt (kTri.enc x)).run P w = _
    unfold Instr.checkKey
    simp only [Sem.run_bind, run_underlying hu, Result.andThen_ok, kTri]
    simp only [Std.Legacy.Range.forIn_eq_forIn_range', Std.Legacy.Range.size, Nat.sub_zero, Nat.add_one_sub_one, Nat.div_one]
    simp [List.range', List.forIn_cons, hs1, hpt x w 0 (.int .i64 x.1) rfl, hpt x w 1 (.int .i64 x.2.1) rfl, hpt x w 2 (.int .i64 x.2.2) rfl, hc x.1 9998, hc x.2.1 9998, hc x.2.2 9998]
  · rw [run_findKey_eq w (by simp [hu])]
    refine findAsking_ok (kc := kTri) (fun a b w => ?_) x w es ks 0 hk
    have := run_equalIn_array (P := P) w 9999 (t := kt) #[.int .i64 a.1, .int .i64 a.2.1, .int .i64 a.2.2] #[.int .i64 b.1, .int .i64 b.2.1, .int .i64 b.2.2] hu hi
    show (Op.equalIn (9999 + 1) kt _ _).run P w = _
    refine this.trans ?_
    rw [hc1]
    have hE : ∀ (a b : Int) (w : World), (Op.equalIn 9999 e (.int .i64 a) (.int .i64 b)).run P w = .ok (a == b) w := fun a b w => run_equalIn_int w 9998 e .i64 .i64 a b he
    simp only [List.range, List.range.loop, Op.eqItems, Sem.run_bind, Nat.zero_mul, Nat.one_mul, Nat.mul_one, hpt a w 0 (.int .i64 a.1) rfl, hpt b w 0 (.int .i64 b.1) rfl, hpt a w 1 (.int .i64 a.2.1) rfl, hpt b w 1 (.int .i64 b.2.1) rfl, hpt a w 2 (.int .i64 a.2.2) rfl, hpt b w 2 (.int .i64 b.2.2) rfl,
      Result.andThen_ok, hE, Sem.run_ite, Sem.run_pure]
    obtain ⟨a1, a2, a3⟩ := a
    obtain ⟨b1, b2, b3⟩ := b
    simp only [Prod.mk.injEq]
    by_cases h1 : a1 = b1 <;> by_cases h2 : a2 = b2 <;> by_cases h3 : a3 = b3 <;> simp [h1, h2, h3]

theorem modify_at {α : Type} (f : α → α) : ∀ (l1 : List α) (x : α) (l2 : List α), (l1 ++ x :: l2).modify l1.length f = l1 ++ f x :: l2
  | [], _, _ => by simp
  | y :: l1, x, l2 => by simp [modify_at f l1 x l2]
theorem nodup_get_inj {α : Type} : ∀ {l : List α}, l.Nodup → ∀ {i j : Nat} {x : α}, l[i]? = some x → l[j]? = some x → i = j
  | [], _, i, j, x, h, _ => by simp at h
  | y :: l, hn, 0, 0, x, _, _ => rfl
  | y :: l, hn, 0, j + 1, x, h, k => by
    simp at h k; subst h
    exact absurd (List.mem_of_getElem? k) (List.nodup_cons.1 hn).1
  | y :: l, hn, i + 1, 0, x, h, k => by
    simp at h k; subst k
    exact absurd (List.mem_of_getElem? h) (List.nodup_cons.1 hn).1
  | y :: l, hn, i + 1, j + 1, x, h, k => by
    simp at h k
    rw [nodup_get_inj (List.nodup_cons.1 hn).2 h k]
/-! ### A map in an object -/
def MRel {κ ν : Type} (kc : KC κ) (c : Codec ν) (H : View) : List MapEntry → List (κ × ν) → Prop
  | [], [] => True
  | e :: es, p :: m => e.key = kc.enc p.1 ∧ kc.ok p.1 ∧ c.rep H [e.val] p.2 ∧ MRel kc c H es m
  | _, _ => False
section
variable {κ ν : Type} {kc : KC κ} {c : Codec ν} {H K : View}
theorem MRel.mono (hle : View.le H K) : ∀ {es : List MapEntry} {m : List (κ × ν)}, MRel kc c H es m → MRel kc c K es m
  | [], [], _ => trivial
  | _ :: _, _ :: _, ⟨h1, h2, h3, h4⟩ => ⟨h1, h2, c.mono hle h3, MRel.mono hle h4⟩
  | [], _ :: _, h => h.elim
  | _ :: _, [], h => h.elim
theorem MRel.keys : ∀ {es : List MapEntry} {m : List (κ × ν)}, MRel kc c H es m → es.map (·.key) = (m.map (·.1)).map kc.enc
  | [], [], _ => rfl
  | _ :: _, _ :: _, ⟨h1, _, _, h4⟩ => by simp only [List.map_cons, h1, MRel.keys h4]
  | [], _ :: _, h => h.elim
  | _ :: _, [], h => h.elim
theorem MRel.length : ∀ {es : List MapEntry} {m : List (κ × ν)}, MRel kc c H es m → es.length = m.length
  | [], [], _ => rfl
  | _ :: _, _ :: _, ⟨_, _, _, h4⟩ => by simp [MRel.length h4]
  | [], _ :: _, h => h.elim
  | _ :: _, [], h => h.elim
theorem MRel.append : ∀ {es es' : List MapEntry} {m m' : List (κ × ν)}, MRel kc c H es m → MRel kc c H es' m' → MRel kc c H (es ++ es') (m ++ m')
  | [], _, [], _, _, h => h
  | _ :: _, _, _ :: _, _, ⟨h1, h2, h3, h4⟩, h => ⟨h1, h2, h3, MRel.append h4 h⟩
  | [], _, _ :: _, _, h, _ => h.elim
  | _ :: _, _, [], _, h, _ => h.elim
theorem MRel.mem : ∀ {es : List MapEntry} {m : List (κ × ν)}, MRel kc c H es m → ∀ e ∈ es, ∃ p ∈ m, e.key = kc.enc p.1 ∧ kc.ok p.1 ∧ c.rep H [e.val] p.2
  | [], [], _, _, h => by cases h
  | _ :: _, p :: _, ⟨h1, h2, h3, h4⟩, e, h => by
    rcases List.mem_cons.1 h with rfl | h
    · exact ⟨p, by simp, h1, h2, h3⟩
    · obtain ⟨q, hq, hr⟩ := MRel.mem h4 e h
      exact ⟨q, by simp [hq], hr⟩
  | [], _ :: _, h, _, _ => h.elim
  | _ :: _, [], h, _, _ => h.elim
theorem MRel.mem' : ∀ {es : List MapEntry} {m : List (κ × ν)}, MRel kc c H es m → ∀ p ∈ m, ∃ e ∈ es, e.key = kc.enc p.1
  | [], [], _, _, h => by cases h
  | e :: _, _ :: _, ⟨h1, h2, h3, h4⟩, p, h => by
    rcases List.mem_cons.1 h with rfl | h
    · exact ⟨e, by simp, h1⟩
    · obtain ⟨q, hq, hr⟩ := MRel.mem' h4 p h
      exact ⟨q, by simp [hq], hr⟩
  | [], _ :: _, h, _, _ => h.elim
  | _ :: _, [], h, _, _ => h.elim
variable [DecidableEq κ]
theorem MRel.at : ∀ {es : List MapEntry} {m : List (κ × ν)} (k : κ) (i : Nat), MRel kc c H es m →
    (mfind m k = none ∧ fnde k (m.map (·.1)) es i = none ∧ (∀ p ∈ m, p.1 ≠ k)) ∨
    ∃ (v : ν) (e : MapEntry) (es1 es2 : List MapEntry) (m1 m2 : List (κ × ν)), mfind m k = some v ∧ fnde k (m.map (·.1)) es i = some (i + es1.length, e.val) ∧ es = es1 ++ e :: es2 ∧ m = m1 ++ (k, v) :: m2 ∧ (∀ p ∈ m1, p.1 ≠ k) ∧
      MRel kc c H es1 m1 ∧ MRel kc c H es2 m2 ∧ e.key = kc.enc k ∧ kc.ok k ∧ c.rep H [e.val] v
  | [], [], k, i, _ => .inl ⟨rfl, rfl, by simp⟩
  | e :: es, (k', v') :: m, k, i, ⟨h1, h2, h3, h4⟩ => by
    by_cases hk : k = k'
    · subst hk
      exact .inr ⟨v', e, [], es, [], m, by simp [mfind], by simp [fnde], rfl, rfl, by simp, trivial, h4, h1, h2, h3⟩
    · rcases MRel.at k (i + 1) h4 with ⟨g1, g2, g3⟩ | ⟨v, e', es1, es2, m1, m2, g1, g2, g3, g4, g5, g6, g7, g8, g9, g10⟩
      · refine .inl ⟨by simp [mfind, hk, g1], by simp [fnde, hk, g2], fun p hp => ?_⟩
        rcases List.mem_cons.1 hp with rfl | hp
        · exact fun e => hk e.symm
        · exact g3 p hp
      · refine .inr ⟨v, e', e :: es1, es2, (k', v') :: m1, m2, by simp [mfind, hk, g1], by simp [fnde, hk, g2]; omega, by simp [g3], by simp [g4], fun p hp => ?_, ⟨h1, h2, h3, g6⟩, g7, g8, g9, g10⟩
        rcases List.mem_cons.1 hp with rfl | hp
        · exact fun e => hk e.symm
        · exact g5 p hp
  | [], _ :: _, _, _, h => h.elim
  | _ :: _, [], _, _, h => h.elim
theorem mset_none : ∀ {m : List (κ × ν)} {k : κ} {v : ν}, (∀ p ∈ m, p.1 ≠ k) → mset m k v = m ++ [(k, v)]
  | [], _, _, _ => rfl
  | p :: m, k, v, h => by
    have : ¬ k = p.1 := fun e => h p (by simp) e.symm
    simp only [mset, if_neg this, List.cons_append]
    rw [mset_none fun q hq => h q (by simp [hq])]
theorem mset_at : ∀ {m1 m2 : List (κ × ν)} {k : κ} {v u : ν}, (∀ p ∈ m1, p.1 ≠ k) → mset (m1 ++ (k, u) :: m2) k v = m1 ++ (k, v) :: m2
  | [], _, _, _, _, _ => by simp [mset]
  | p :: m, m2, k, v, u, h => by
    have : ¬ k = p.1 := fun e => h p (by simp) e.symm
    simp only [mset, List.cons_append, if_neg this]
    rw [mset_at fun q hq => h q (by simp [hq])]
theorem mdel_none : ∀ {m : List (κ × ν)} {k : κ}, (∀ p ∈ m, p.1 ≠ k) → mdel m k = m
  | [], _, _ => rfl
  | p :: m, k, h => by
    have : ¬ k = p.1 := fun e => h p (by simp) e.symm
    simp only [mdel, if_neg this]
    rw [mdel_none fun q hq => h q (by simp [hq])]
theorem mdel_at : ∀ {m1 m2 : List (κ × ν)} {k : κ} {u : ν}, (∀ p ∈ m1, p.1 ≠ k) → mdel (m1 ++ (k, u) :: m2) k = m1 ++ m2
  | [], _, _, _, _ => by simp [mdel]
  | p :: m, m2, k, u, h => by
    have : ¬ k = p.1 := fun e => h p (by simp) e.symm
    simp only [mdel, List.cons_append, if_neg this]
    rw [mdel_at fun q hq => h q (by simp [hq])]
end
def OwnMp {κ ν : Type} (H : View) (kc : KC κ) (c : Codec ν) (v : Value) (m : List (κ × ν)) (fp : Seg) : Prop :=
  ∃ r es clock, v = .map (some r) ∧ fp = [(r, .map es clock)] ∧ MRel kc c H es.toList m ∧ (m.map (·.1)).Nodup ∧ (∀ e ∈ es.toList, e.born < clock) ∧ (es.toList.map (·.born)).Nodup
/-- An iterator over a map: the keys that it handed out. -/
def ItOk {κ : Type} (kc : KC κ) (fpM : Seg) (it : Value) (fpI : Seg) (sn : List κ) : Prop :=
  ∃ r es clock b seen since last, fpM = [(r, .map es clock)] ∧ it = .pointer (some ⟨b, 0, none⟩) ∧ fpI = [(b, .mapIter (some r) since seen last)] ∧ since ≤ last ∧ since ≤ clock ∧ (∀ e ∈ es.toList, e.born < since) ∧
    (∀ e ∈ es.toList, ∀ k, e.key = kc.enc k → (seen.contains e.born = true ↔ k ∈ sn))
/-- The iterator's last entry is there. -/
def ItCur {κ : Type} (kc : KC κ) (fpM fpI : Seg) (k : κ) (u : Value) : Prop :=
  ∃ r es clock b seen since last e, fpM = [(r, .map es clock)] ∧ fpI = [(b, .mapIter (some r) since seen last)] ∧ last = clock ∧ seen.back? = some e.born ∧ e ∈ es.toList ∧ (es.toList.map (·.born)).Nodup ∧ e.key = kc.enc k ∧ e.val = u

theorem WL.turn00 {P : Program} {ops : Array Oper} {Q : Exit → Act → World → Prop} {n : Nat} {l : List (Nat × Value)} {rest : List Oper} {o : Oper} {w w' : World} {v : Value} (hg : o.guard = none) (hd : o.dst = none) (he : ∀ a, Fr n l a → (execOp a.eval o).run P w = .ok (.value v) w')
    (k : WL P ops Q n l rest w') : WL P ops Q n l (o :: rest) w := fun a ha => wpList_plain hg fun K hK => by
  unfold Oper.wp
  rw [he a ha, Oper.upon_value, hd]
  exact hK _ _ (k _ ha)
section ops
variable {κ ν : Type} {kc : KC κ} {c : Codec ν} {P : Program} {ops : Array Oper} {Q : Exit → Act → World → Prop} {n : Nat} {l : List (Nat × Value)} {rest : List Oper} {w0 w : World} {H K : View} {L : Seg} {C : World → Prop} {dst : Option Tmp} {ty : TypeId} {pos : String} {af : Array Edge} {gd : Option (Nat × Bool)}
theorem OwnMp.mono {v : Value} {m : List (κ × ν)} {fp : Seg} (h : OwnMp H kc c v m fp) (hle : View.le H K) : OwnMp K kc c v m fp := by
  obtain ⟨r, es, clock, h1, h2, h3, h4⟩ := h
  exact ⟨r, es, clock, h1, h2, h3.mono hle, h4⟩
theorem OwnMp.one {v : Value} {m : List (κ × ν)} {fp : Seg} (h : OwnMp H kc c v m fp) : v.oneCell' = true := by obtain ⟨r, es, clock, rfl, _⟩ := h; rfl
theorem OwnMp.nodup {v : Value} {m : List (κ × ν)} {fp : Seg} (h : OwnMp H kc c v m fp) : (m.map (·.1)).Nodup := by obtain ⟨r, es, clock, _, _, _, h, _⟩ := h; exact h
/-- A lookup. -/
theorem run_lookup [DecidableEq κ] {t kt et : TypeId} {z : Value} {d : ν} {v : Value} {m : List (κ × ν)} {fp : Seg} {k : κ} (ht : P.underlying t = some (.map kt et)) (hk : KeyOK P kt kc) (hz : ∀ w, (zeroValue et).run P w = .ok z w) (hz0 : c.rep H [z] d) (hm : OwnMp H kc c v m fp) :
    ∃ u, c.rep H [u] (mgetD m k d) ∧ ∀ K L w, St w0 K (fp ++ L) w → ∀ ok : Bool, (Instr.lookup t v (kc.enc k) ok).run P w = .ok (if ok then .tuple #[u, .bool (mhas m k)] else u) w := by
  obtain ⟨r, es, clock, rfl, rfl, h3, h4, h5, h6⟩ := hm
  have hks := h3.keys
  rcases MRel.at k 0 h3 with ⟨g1, g2, g3⟩ | ⟨v, e, es1, es2, m1, m2, g1, g2, g3, g4, g5, g6, g7, g8, g9, g10⟩
  · refine ⟨z, by simp [mgetD, g1, hz0], fun K L w hw ok => ?_⟩
    have hb := hw.own (r, .map es clock) (by simp)
    simp only [Instr.lookup, Sem.run_bind, run_underlying ht, Result.andThen_ok, MapKept.run_getObj_map hb, hk.check, hk.find k es.toList _ w hks, g2, hz, mhas, g1, Sem.run_pure]
    cases ok <;> simp [Result.andThen_ok, hz]
  · refine ⟨e.val, by simp [mgetD, g1, g10], fun K L w hw ok => ?_⟩
    have hb := hw.own (r, .map es clock) (by simp)
    simp only [Instr.lookup, Sem.run_bind, run_underlying ht, Result.andThen_ok, MapKept.run_getObj_map hb, hk.check, hk.find k es.toList _ w hks, g2, mhas, g1, Sem.run_pure]
    cases ok <;> simp [Result.andThen_ok]
theorem ex_lookup [DecidableEq κ] {t kt et : TypeId} {x y : Operand} {z : Value} {d : ν} {v : Value} {m : List (κ × ν)} {fp : Seg} {k : κ} (ht : P.underlying t = some (.map kt et)) (hk : KeyOK P kt kc) (hz : ∀ w, (zeroValue et).run P w = .ok z w) (hz0 : c.rep H [z] d)
    (hx : opv l x = some v) (hy : opv l y = some (kc.enc k)) (hm : OwnMp H kc c v m fp) : ∃ u, c.rep H [u] (mgetD m k d) ∧ ∀ K L, View.le H K → Exv P n l (St w0 K (fp ++ L)) ⟨dst, .lookup t x y false, ty, pos, af, gd⟩ u := by
  obtain ⟨u, h1, h2⟩ := run_lookup (w0 := w0) (k := k) ht hk hz hz0 hm
  refine ⟨u, h1, fun K L _ w hw a ha => ?_⟩
  simp [execOp, ha.eval hx, ha.eval hy, h2 K L w hw false]
theorem ex_lookup_ok [DecidableEq κ] {t kt et : TypeId} {x y : Operand} {z : Value} {d : ν} {v : Value} {m : List (κ × ν)} {fp : Seg} {k : κ} (ht : P.underlying t = some (.map kt et)) (hk : KeyOK P kt kc) (hz : ∀ w, (zeroValue et).run P w = .ok z w) (hz0 : c.rep H [z] d)
    (hx : opv l x = some v) (hy : opv l y = some (kc.enc k)) (hm : OwnMp H kc c v m fp) : ∃ u, (∃ u0, u = .tuple #[u0, .bool (mhas m k)] ∧ c.rep H [u0] (mgetD m k d)) ∧ ∀ K L, View.le H K → Exv P n l (St w0 K (fp ++ L)) ⟨dst, .lookup t x y true, ty, pos, af, gd⟩ u := by
  obtain ⟨u, h1, h2⟩ := run_lookup (w0 := w0) (k := k) ht hk hz hz0 hm
  refine ⟨_, ⟨u, rfl, h1⟩, fun K L _ w hw a ha => ?_⟩
  simp [execOp, ha.eval hx, ha.eval hy, h2 K L w hw true]
theorem ex_len_map {t kt et : TypeId} {x : Operand} {v : Value} {m : List (κ × ν)} {fp : Seg} (ht : P.underlying t = some (.map kt et)) (hx : opv l x = some v) (hm : OwnMp H kc c v m fp) :
    ∀ K L, View.le H K → Exv P n l (St w0 K (fp ++ L)) ⟨dst, .call { callee := .builtin .len, args := #[x], argTypes := #[t] }, ty, pos, af, gd⟩ (.int .i64 m.length) := fun K L _ w hw a ha => by
  obtain ⟨r, es, clock, rfl, rfl, h3, h4, h5, h6⟩ := hm
  have hb := hw.own (r, .map es clock) (by simp)
  have hl := h3.length
  simp at hl
  simp [execOp, resolve, invoke, builtin, Builtin.len_, ha.eval hx, run_underlying ht, MapKept.run_getObj_map hb, goInt, hl]
theorem setBlock_write {r : Nat} {o o' : Obj} (hw : St w0 H ([(r, o)] ++ L) w) : St w0 H ([(r, o')] ++ L) { w with heap := w.heap.setIfInBounds r o' } := by
  have hb := hw.own (r, o) (by simp)
  have := MapKept.heap_set (o' := o') hb
  exact hw.write rfl rfl rfl (by simp) this.1 this.2
theorem run_mapUpdate [DecidableEq κ] {t kt et : TypeId} {v u : Value} {m : List (κ × ν)} {fp : Seg} {k : κ} {z : ν} (ht : P.underlying t = some (.map kt et)) (hk : KeyOK P kt kc) (hok : kc.ok k) (hr : c.rep H [u] z) (hm : OwnMp H kc c v m fp) (hw : St w0 H (fp ++ L) w) :
    ∃ w' fp', (Instr.mapUpdate t v (kc.enc k) u).run P w = .ok () w' ∧ OwnMp H kc c v (mset m k z) fp' ∧ St w0 H (fp' ++ L) w' := by
  obtain ⟨r, es, clock, rfl, rfl, h3, h4, h5, h6⟩ := hm
  have hb := hw.own (r, .map es clock) (by simp)
  have hks := h3.keys
  rcases MRel.at k 0 h3 with ⟨g1, g2, g3⟩ | ⟨v, e, es1, es2, m1, m2, g1, g2, g3, g4, g5, g6, g7, g8, g9, g10⟩
  · refine ⟨{ w with heap := w.heap.setIfInBounds r (.map (es.push { key := kc.enc k, val := u, born := clock }) (clock + 1)) }, _, ?_, ⟨r, es.push { key := kc.enc k, val := u, born := clock }, clock + 1, rfl, rfl, ?_, ?_, ?_, ?_⟩, setBlock_write hw⟩
    · simp only [Instr.mapUpdate, Sem.run_bind, run_underlying ht, Result.andThen_ok, MapKept.run_getObj_map hb, hk.check, hk.find k es.toList _ w hks, g2, MapKept.run_setObj_map _ hb]
    · rw [mset_none g3, Array.toList_push]
      exact MRel.append h3 ⟨rfl, hok, hr, trivial⟩
    · rw [mset_none g3, List.map_append, List.nodup_append]
      refine ⟨h4, by simp, fun a ha b hb e => ?_⟩
      obtain ⟨p, hp, rfl⟩ := List.mem_map.1 ha
      simp at hb
      exact g3 p hp (e.trans hb)
    · intro e he
      rw [Array.toList_push] at he
      rcases List.mem_append.1 he with he | he
      · exact Nat.lt_succ_of_lt (h5 e he)
      · rw [List.mem_singleton.1 he]; exact Nat.lt_succ_self _
    · rw [Array.toList_push, List.map_append, List.nodup_append]
      refine ⟨h6, by simp, fun a ha b hb e => ?_⟩
      obtain ⟨p, hp, rfl⟩ := List.mem_map.1 ha
      simp at hb
      have := h5 p hp
      omega
  · have hei : es[es1.length]? = some e := by rw [← Array.getElem?_toList, g3]; simp
    have hmod : (es.modify es1.length fun e' => { e' with key := kc.enc k, val := u }).toList = es1 ++ { e with key := kc.enc k, val := u } :: es2 := by
      rw [Array.toList_modify, g3]
      exact modify_at _ es1 e es2
    refine ⟨{ w with heap := w.heap.setIfInBounds r (.map (es.modify es1.length fun e' => { e' with key := kc.enc k, val := u }) clock) }, _, ?_, ⟨r, _, clock, rfl, rfl, ?_, ?_, ?_, ?_⟩, setBlock_write hw⟩
    · simp only [Instr.mapUpdate, Sem.run_bind, run_underlying ht, Result.andThen_ok, MapKept.run_getObj_map hb, hk.check, hk.find k es.toList _ w hks, g2, Nat.zero_add, hei, Option.map_some, Option.getD_some, g8, Instr.keyThatStays, kc.same, if_true, Sem.run_pure, MapKept.run_setObj_map _ hb]
    · rw [hmod, g4, mset_at g5]
      exact MRel.append g6 ⟨rfl, g9, hr, g7⟩
    · rw [g4, mset_at g5]; rw [g4] at h4; simpa using h4
    · rw [hmod]; intro e' he'
      rw [g3] at h5
      rcases List.mem_append.1 he' with he' | he'
      · exact h5 e' (by simp [he'])
      · rcases List.mem_cons.1 he' with rfl | he'
        · exact h5 e (by simp)
        · exact h5 e' (by simp [he'])
    · rw [hmod]; rw [g3] at h6; simpa using h6
theorem WL.mapUpdate [DecidableEq κ] {t kt et : TypeId} {x y z : Operand} {v u : Value} {m : List (κ × ν)} {fp : Seg} {k : κ} {e : ν} (ht : P.underlying t = some (.map kt et)) (hk : KeyOK P kt kc) (hok : kc.ok k) (hr : c.rep H [u] e) (hx : opv l x = some v) (hy : opv l y = some (kc.enc k)) (hz : opv l z = some u)
    (hw : St w0 H (fp ++ L) w) (hm : OwnMp H kc c v m fp) (go : ∀ w' fp', OwnMp H kc c v (mset m k e) fp' → St w0 H (fp' ++ L) w' → WL P ops Q n l rest w') : WL P ops Q n l (⟨none, .mapUpdate t x y z, ty, pos, af, none⟩ :: rest) w := by
  obtain ⟨w', fp', h1, h2, h3⟩ := run_mapUpdate (P := P) ht hk hok hr hm hw
  refine WL.turn0 rfl rfl (fun a ha => ?_) (go w' fp' h2 h3)
  simp [execOp, ha.eval hx, ha.eval hy, ha.eval hz, h1]
theorem run_delete [DecidableEq κ] {t kt et : TypeId} {v : Value} {m : List (κ × ν)} {fp : Seg} {k : κ} (ht : P.underlying t = some (.map kt et)) (hk : KeyOK P kt kc) (hm : OwnMp H kc c v m fp) (hw : St w0 H (fp ++ L) w) (tk : TypeId) :
    ∃ w' fp', (Builtin.delete_ #[t, tk] ty #[v, kc.enc k]).run P w = .ok (.tuple #[]) w' ∧ OwnMp H kc c v (mdel m k) fp' ∧ St w0 H (fp' ++ L) w' ∧ ∀ it fpI (sn : List κ), ItOk kc fp it fpI sn → ItOk kc fp' it fpI sn := by
  obtain ⟨r, es, clock, rfl, rfl, h3, h4, h5, h6⟩ := hm
  have hb := hw.own (r, .map es clock) (by simp)
  have hks := h3.keys
  rcases MRel.at k 0 h3 with ⟨g1, g2, g3⟩ | ⟨v, e, es1, es2, m1, m2, g1, g2, g3, g4, g5, g6, g7, g8, g9, g10⟩
  · refine ⟨{ w with heap := w.heap.setIfInBounds r (.map es clock) }, _, ?_, ⟨r, es, clock, rfl, rfl, ?_, ?_, h5, h6⟩, setBlock_write hw, fun _ _ _ h => h⟩
    · simp [Builtin.delete_, run_underlying ht, MapKept.run_getObj_map hb, hk.check, hk.find k es.toList _ w hks, g2, MapKept.run_setObj_map _ hb]
    · rw [mdel_none g3]; exact h3
    · rw [mdel_none g3]; exact h4
  · have hlt : es1.length < es.size := by rw [← Array.length_toList, g3]; simp
    have her : (es.eraseIdxIfInBounds es1.length).toList = es1 ++ es2 := by
      unfold Array.eraseIdxIfInBounds
      rw [dif_pos hlt, Array.toList_eraseIdx, g3, List.eraseIdx_append_of_length_le (Nat.le_refl _)]
      simp
    refine ⟨{ w with heap := w.heap.setIfInBounds r (.map (es.eraseIdxIfInBounds es1.length) clock) }, _, ?_, ⟨r, _, clock, rfl, rfl, ?_, ?_, ?_, ?_⟩, setBlock_write hw, ?_⟩
    · simp [Builtin.delete_, run_underlying ht, MapKept.run_getObj_map hb, hk.check, hk.find k es.toList _ w hks, g2, MapKept.run_setObj_map _ hb]
    · rw [her, g4, mdel_at g5]; exact MRel.append g6 g7
    · rw [g4, mdel_at g5]; rw [g4] at h4
      exact h4.sublist (List.Sublist.map _ (List.Sublist.append (List.Sublist.refl _) (List.sublist_cons_self _ _)))
    · rw [her]; intro e' he'; exact h5 e' (by rw [g3]; rcases List.mem_append.1 he' with h | h <;> simp [h])
    · rw [her]; rw [g3] at h6
      exact h6.sublist (List.Sublist.map _ (List.Sublist.append (List.Sublist.refl _) (List.sublist_cons_self _ _)))
    · rintro it fpI sn ⟨r', es', clock', b, seen, since, last, e1, e2, e3, e4, e5, e6, e7⟩
      cases e1
      have hsub : ∀ x ∈ (es.eraseIdxIfInBounds es1.length).toList, x ∈ es.toList := fun x hx => by rw [her] at hx; rw [g3]; rcases List.mem_append.1 hx with h | h <;> simp [h]
      exact ⟨r, _, clock, b, seen, since, last, rfl, e2, e3, e4, e5, fun x hx => e6 x (hsub x hx), fun x hx => e7 x (hsub x hx)⟩
theorem WL.delete [DecidableEq κ] {t tk kt et : TypeId} {x y : Operand} {v : Value} {m : List (κ × ν)} {fp : Seg} {k : κ} (ht : P.underlying t = some (.map kt et)) (hk : KeyOK P kt kc) (hx : opv l x = some v) (hy : opv l y = some (kc.enc k))
    (hw : St w0 H (fp ++ L) w) (hm : OwnMp H kc c v m fp) (go : ∀ w' fp', OwnMp H kc c v (mdel m k) fp' → (∀ it fpI (sn : List κ), ItOk kc fp it fpI sn → ItOk kc fp' it fpI sn) → St w0 H (fp' ++ L) w' → WL P ops Q n l rest w') :
    WL P ops Q n l (⟨none, .call { callee := .builtin .delete, args := #[x, y], argTypes := #[t, tk] }, ty, pos, af, none⟩ :: rest) w := by
  obtain ⟨w', fp', h1, h2, h3, h4⟩ := run_delete (P := P) (ty := ty) ht hk hm hw tk
  refine WL.turn00 (v := .tuple #[]) rfl rfl (fun a ha => ?_) (go w' fp' h2 h4 h3)
  simp [execOp, resolve, invoke, builtin, ha.eval hx, ha.eval hy, h1]
theorem WL.clearmap {t kt et : TypeId} {x : Operand} {v : Value} {m : List (κ × ν)} {fp : Seg} (ht : P.underlying t = some (.map kt et)) (hx : opv l x = some v)
    (hw : St w0 H (fp ++ L) w) (hm : OwnMp H kc c v m fp) (go : ∀ w' fp', OwnMp H kc c v ([] : List (κ × ν)) fp' → St w0 H (fp' ++ L) w' → WL P ops Q n l rest w') :
    WL P ops Q n l (⟨none, .call { callee := .builtin .clear, args := #[x], argTypes := #[t] }, ty, pos, af, none⟩ :: rest) w := by
  obtain ⟨r, es, clock, rfl, rfl, h3, h4, h5, h6⟩ := hm
  have hb := hw.own (r, .map es clock) (by simp)
  refine WL.turn00 (v := .tuple #[]) (w' := { w with heap := w.heap.setIfInBounds r (.map #[] clock) }) rfl rfl (fun a ha => ?_) (go _ _ ⟨r, #[], clock, rfl, rfl, trivial, by simp, by simp, by simp⟩ (setBlock_write hw))
  simp [execOp, resolve, invoke, builtin, Builtin.clear_, ha.eval hx, run_underlying ht, MapKept.run_getObj_map hb, MapKept.run_setObj_map _ hb]
theorem WL.makeMap {d : Nat} {t : TypeId} (hdn : Nat.blt d n = true) (hw : St w0 H L w) (go : ∀ v' w' fp', OwnMp H kc c v' ([] : List (κ × ν)) fp' → St w0 H (fp' ++ L) w' → WL P ops Q n ((d, v') :: l) rest w') :
    WL P ops Q n l (⟨some d, .makeMap t none, ty, pos, af, none⟩ :: rest) w := by
  refine WL.turn (w' := w.alloc (.map #[] 0)) (v := .map (some w.heap.size)) rfl rfl hdn (fun a ha => ?_) (go _ _ _ ⟨_, #[], 0, rfl, rfl, trivial, by simp, by simp, by simp⟩ (hw.alloc _))
  simp [execOp, Instr.makeMap, newObj]
  rfl
theorem WL.range {d : Nat} {t kt et : TypeId} {x : Operand} {v : Value} {m : List (κ × ν)} {fp : Seg} (hdn : Nat.blt d n = true) (ht : P.underlying t = some (.map kt et)) (hx : opv l x = some v) (hw : St w0 H (fp ++ L) w) (hm : OwnMp H kc c v m fp)
    (go : ∀ b w' fpI, ItOk kc fp (.pointer (some ⟨b, 0, none⟩)) fpI ([] : List κ) → St w0 H (fpI ++ (fp ++ L)) w' → WL P ops Q n ((d, .pointer (some ⟨b, 0, none⟩)) :: l) rest w') :
    WL P ops Q n l (⟨some d, .range t x, ty, pos, af, none⟩ :: rest) w := by
  obtain ⟨r, es, clock, rfl, rfl, h3, h4, h5, h6⟩ := hm
  have hb := hw.own (r, .map es clock) (by simp)
  refine WL.turn rfl rfl hdn (fun a ha => ?_) (go w.heap.size _ _ ⟨r, es, clock, _, #[], clock, clock, rfl, rfl, rfl, Nat.le_refl _, Nat.le_refl _, h5, fun e he k hk => by simp⟩ (hw.alloc _))
  simp [execOp, ha.eval hx, run_range_map w t kt et r es clock ht hb]
/-- A step of an iterator: nothing is left, or some entry that is. -/
theorem WL.next {d : Nat} {x : Operand} {v : Value} {m : List (κ × ν)} {fp fpI : Seg} {b : Nat} {sn : List κ} (h1 : c.size = 1) (hdn : Nat.blt d n = true) (hx : opv l x = some (.pointer (some ⟨b, 0, none⟩))) (hw : St w0 H (fpI ++ (fp ++ L)) w) (hm : OwnMp H kc c v m fp) (hi : ItOk kc fp (.pointer (some ⟨b, 0, none⟩)) fpI sn)
    (go1 : (∀ p ∈ m, p.1 ∈ sn) → ∀ w', St w0 H (fpI ++ (fp ++ L)) w' → WL P ops Q n ((d, .tuple #[.bool false]) :: l) rest w')
    (go2 : ∀ k e u w' fpI', (k, e) ∈ m → k ∉ sn → kc.ok k → c.rep H [u] e → ItOk kc fp (.pointer (some ⟨b, 0, none⟩)) fpI' (k :: sn) → ItCur kc fp fpI' k u → St w0 H (fpI' ++ (fp ++ L)) w' → WL P ops Q n ((d, .tuple #[.bool true, kc.enc k, u]) :: l) rest w') :
    WL P ops Q n l (⟨some d, .next x false, ty, pos, af, none⟩ :: rest) w := by
  obtain ⟨r, es, clock, rfl, rfl, h3, h4, h5, h6⟩ := hm
  obtain ⟨r', es', clock', b', seen, since, last, e1, e2, rfl, e4, e5, e6, e7⟩ := hi
  cases e1; cases e2
  have hb := hw.own (r, .map es clock) (by simp)
  have hr := hw.own (b, .mapIter (some r) since seen last) (by simp)
  rcases run_next_at (P := P) w ty b r since last seen es clock hr hb e6 e4 with ⟨g1, g2⟩ | ⟨e, g1, w1, g2, g3⟩
  · refine WL.turn rfl rfl hdn (fun a ha => ?_) (go1 (fun p hp => ?_) w hw)
    · simp [execOp, ha.eval hx, g2]
    · obtain ⟨e, he, hk⟩ := MRel.mem' h3 p hp
      refine (e7 e he p.1 hk).1 ?_
      cases hs : seen.contains e.born with
      | true => rfl
      | false =>
        exfalso
        have hl : leftOf es seen = #[] := Array.eq_empty_of_size_eq_zero g1
        have : e ∈ (leftOf es seen).toList := by
          unfold leftOf
          rw [Array.toList_filter, List.mem_filter]
          exact ⟨he, by rw [hs]; rfl⟩
        rw [hl] at this
        simp at this
  · obtain ⟨he, hs⟩ := mem_left g1
    obtain ⟨p, hp, f1, f2, f3⟩ := MRel.mem h3 e he
    have hst1 : St w0 H ([(b, Obj.mapIter (some r) since seen last)] ++ ([(r, .map es clock)] ++ L)) w1 := g2.elim (fun h => h ▸ hw) (fun h => h ▸ hw.drew)
    refine WL.turn rfl rfl hdn (fun a ha => ?_) (go2 p.1 p.2 e.val _ [(b, .mapIter (some r) since (seen.push e.born) clock)] hp (fun hin => ?_) f2 f3 ⟨r, es, clock, b, _, since, clock, rfl, rfl, rfl, e5, e5, e6, fun x hx k hk => ?_⟩ ⟨r, es, clock, b, _, since, clock, e, rfl, rfl, rfl, by simp, he, h6, f1, rfl⟩ (setBlock_write hst1))
    · rw [← f1]
      simp [execOp, ha.eval hx, g3]
      rfl
    · have := (e7 e he p.1 f1).2 hin
      rw [this] at hs; cases hs
    · rw [Array.contains_push, Bool.or_eq_true, List.mem_cons, e7 x hx k hk]
      constructor
      · rintro (h | h)
        · exact .inr h
        · left
          have hbx : e.born = x.born := (by simpa using h : x.born = e.born).symm
          have hex : e = x := by
            have h1 := find_born e es.toList h6 he
            have h2 := find_born x es.toList h6 hx
            rw [hbx] at h1; rw [h1] at h2; exact Option.some.inj h2
          subst hex
          exact kc.inj (hk.symm.trans f1)
      · rintro (h | h)
        · right
          subst h
          have hex : e = x := by
            obtain ⟨i, hi⟩ := List.getElem?_of_mem he
            obtain ⟨j, hj⟩ := List.getElem?_of_mem hx
            have hkd : (es.toList.map (·.key)).Nodup := by
              rw [h3.keys]; exact List.Pairwise.map _ (fun _ _ hne h => hne (kc.inj h)) h4
            have hij : i = j := by
              have hi' : (es.toList.map (·.key))[i]? = some e.key := by simp [hi]
              have hj' : (es.toList.map (·.key))[j]? = some e.key := by simp [hj, hk, f1]
              have hil := (List.getElem?_eq_some_iff.1 hi').1
              rw [← hj'] at hi'; exact nodup_get_inj hkd (hi'.trans hj') hj'
            subst hij
            rw [hi] at hj; exact Option.some.inj hj
          rw [hex]; simp
        · exact .inl h
theorem ex_entry {x : Operand} {fp fpI : Seg} {b : Nat} {k : κ} {u : Value} {sn : List κ} (hx : opv l x = some (.pointer (some ⟨b, 0, none⟩))) (hi : ItOk kc fp (.pointer (some ⟨b, 0, none⟩)) fpI sn) (hc : ItCur kc fp fpI k u) :
    Exv P n l (St w0 H (fpI ++ (fp ++ L))) ⟨dst, .entry x, ty, pos, af, gd⟩ (.tuple #[kc.enc k, u]) := fun w hw a ha => by
  obtain ⟨r, es, clock, b', seen, since, last, e, rfl, rfl, rfl, h1, h2, h3, h4, h5⟩ := hc
  obtain ⟨_, _, _, _, _, _, _, _, e2, e3, _⟩ := hi
  cases e2; cases e3
  have hb := hw.own (r, .map es last) (by simp)
  have hr := hw.own (b, .mapIter (some r) since seen last) (by simp)
  have hf : es.find? (·.born == e.born) = some e := by rw [← Array.find?_toList]; exact find_born e es.toList h3 h2
  simp only [execOp, ha.eval hx, Instr.entry, getObj, Sem.run_bind, Sem.run, hr, hb, Result.andThen, h1, bne_self_eq_false, Bool.false_eq_true, if_false, hf, h4, h5]
  rfl
end ops

/-! ### More orders of segments -/
theorem St.f7 {w0 w : World} {H : View} {L : Seg} {a b c d e f g : Seg} (hh : St w0 H (a ++ (b ++ (c ++ (d ++ (e ++ (f ++ (g ++ L))))))) w) : St w0 H (g ++ (a ++ (b ++ (c ++ (d ++ (e ++ (f ++ L))))))) w := St.f6 (L := f ++ L) (hh.perm (List.Perm.append_left a (List.Perm.append_left b (List.Perm.append_left c (List.Perm.append_left d (List.Perm.append_left e (by rw [← List.append_assoc, ← List.append_assoc]; exact List.Perm.append_right _ List.perm_append_comm)))))))
theorem St.f8 {w0 w : World} {H : View} {L : Seg} {a b c d e f g h : Seg} (hh : St w0 H (a ++ (b ++ (c ++ (d ++ (e ++ (f ++ (g ++ (h ++ L)))))))) w) : St w0 H (h ++ (a ++ (b ++ (c ++ (d ++ (e ++ (f ++ (g ++ L)))))))) w := St.f7 (L := g ++ L) (hh.perm (List.Perm.append_left a (List.Perm.append_left b (List.Perm.append_left c (List.Perm.append_left d (List.Perm.append_left e (List.Perm.append_left f (by rw [← List.append_assoc, ← List.append_assoc]; exact List.Perm.append_right _ List.perm_append_comm))))))))
theorem St.f9 {w0 w : World} {H : View} {L : Seg} {a b c d e f g h i : Seg} (hh : St w0 H (a ++ (b ++ (c ++ (d ++ (e ++ (f ++ (g ++ (h ++ (i ++ L))))))))) w) : St w0 H (i ++ (a ++ (b ++ (c ++ (d ++ (e ++ (f ++ (g ++ (h ++ L))))))))) w := St.f8 (L := h ++ L) (hh.perm (List.Perm.append_left a (List.Perm.append_left b (List.Perm.append_left c (List.Perm.append_left d (List.Perm.append_left e (List.Perm.append_left f (List.Perm.append_left g (by rw [← List.append_assoc, ← List.append_assoc]; exact List.Perm.append_right _ List.perm_append_comm)))))))))
theorem St.f10 {w0 w : World} {H : View} {L : Seg} {a b c d e f g h i j : Seg} (hh : St w0 H (a ++ (b ++ (c ++ (d ++ (e ++ (f ++ (g ++ (h ++ (i ++ (j ++ L)))))))))) w) : St w0 H (j ++ (a ++ (b ++ (c ++ (d ++ (e ++ (f ++ (g ++ (h ++ (i ++ L)))))))))) w := St.f9 (L := i ++ L) (hh.perm (List.Perm.append_left a (List.Perm.append_left b (List.Perm.append_left c (List.Perm.append_left d (List.Perm.append_left e (List.Perm.append_left f (List.Perm.append_left g (List.Perm.append_left h (by rw [← List.append_assoc, ← List.append_assoc]; exact List.Perm.append_right _ List.perm_append_comm))))))))))
theorem St.f11 {w0 w : World} {H : View} {L : Seg} {a b c d e f g h i j k : Seg} (hh : St w0 H (a ++ (b ++ (c ++ (d ++ (e ++ (f ++ (g ++ (h ++ (i ++ (j ++ (k ++ L))))))))))) w) : St w0 H (k ++ (a ++ (b ++ (c ++ (d ++ (e ++ (f ++ (g ++ (h ++ (i ++ (j ++ L))))))))))) w := St.f10 (L := j ++ L) (hh.perm (List.Perm.append_left a (List.Perm.append_left b (List.Perm.append_left c (List.Perm.append_left d (List.Perm.append_left e (List.Perm.append_left f (List.Perm.append_left g (List.Perm.append_left h (List.Perm.append_left i (by rw [← List.append_assoc, ← List.append_assoc]; exact List.Perm.append_right _ List.perm_append_comm)))))))))))
theorem St.f12 {w0 w : World} {H : View} {L : Seg} {a b c d e f g h i j k l : Seg} (hh : St w0 H (a ++ (b ++ (c ++ (d ++ (e ++ (f ++ (g ++ (h ++ (i ++ (j ++ (k ++ (l ++ L)))))))))))) w) : St w0 H (l ++ (a ++ (b ++ (c ++ (d ++ (e ++ (f ++ (g ++ (h ++ (i ++ (j ++ (k ++ L)))))))))))) w := St.f11 (L := k ++ L) (hh.perm (List.Perm.append_left a (List.Perm.append_left b (List.Perm.append_left c (List.Perm.append_left d (List.Perm.append_left e (List.Perm.append_left f (List.Perm.append_left g (List.Perm.append_left h (List.Perm.append_left i (List.Perm.append_left j (by rw [← List.append_assoc, ← List.append_assoc]; exact List.Perm.append_right _ List.perm_append_comm))))))))))))
theorem St.f13 {w0 w : World} {H : View} {L : Seg} {a b c d e f g h i j k l m : Seg} (hh : St w0 H (a ++ (b ++ (c ++ (d ++ (e ++ (f ++ (g ++ (h ++ (i ++ (j ++ (k ++ (l ++ (m ++ L))))))))))))) w) : St w0 H (m ++ (a ++ (b ++ (c ++ (d ++ (e ++ (f ++ (g ++ (h ++ (i ++ (j ++ (k ++ (l ++ L))))))))))))) w := St.f12 (L := l ++ L) (hh.perm (List.Perm.append_left a (List.Perm.append_left b (List.Perm.append_left c (List.Perm.append_left d (List.Perm.append_left e (List.Perm.append_left f (List.Perm.append_left g (List.Perm.append_left h (List.Perm.append_left i (List.Perm.append_left j (List.Perm.append_left k (by rw [← List.append_assoc, ← List.append_assoc]; exact List.Perm.append_right _ List.perm_append_comm)))))))))))))
theorem St.f14 {w0 w : World} {H : View} {L : Seg} {a b c d e f g h i j k l m n : Seg} (hh : St w0 H (a ++ (b ++ (c ++ (d ++ (e ++ (f ++ (g ++ (h ++ (i ++ (j ++ (k ++ (l ++ (m ++ (n ++ L)))))))))))))) w) : St w0 H (n ++ (a ++ (b ++ (c ++ (d ++ (e ++ (f ++ (g ++ (h ++ (i ++ (j ++ (k ++ (l ++ (m ++ L)))))))))))))) w := St.f13 (L := m ++ L) (hh.perm (List.Perm.append_left a (List.Perm.append_left b (List.Perm.append_left c (List.Perm.append_left d (List.Perm.append_left e (List.Perm.append_left f (List.Perm.append_left g (List.Perm.append_left h (List.Perm.append_left i (List.Perm.append_left j (List.Perm.append_left k (List.Perm.append_left l (by rw [← List.append_assoc, ← List.append_assoc]; exact List.Perm.append_right _ List.perm_append_comm))))))))))))))
theorem St.f15 {w0 w : World} {H : View} {L : Seg} {a b c d e f g h i j k l m n o : Seg} (hh : St w0 H (a ++ (b ++ (c ++ (d ++ (e ++ (f ++ (g ++ (h ++ (i ++ (j ++ (k ++ (l ++ (m ++ (n ++ (o ++ L))))))))))))))) w) : St w0 H (o ++ (a ++ (b ++ (c ++ (d ++ (e ++ (f ++ (g ++ (h ++ (i ++ (j ++ (k ++ (l ++ (m ++ (n ++ L))))))))))))))) w := St.f14 (L := n ++ L) (hh.perm (List.Perm.append_left a (List.Perm.append_left b (List.Perm.append_left c (List.Perm.append_left d (List.Perm.append_left e (List.Perm.append_left f (List.Perm.append_left g (List.Perm.append_left h (List.Perm.append_left i (List.Perm.append_left j (List.Perm.append_left k (List.Perm.append_left l (List.Perm.append_left m (by rw [← List.append_assoc, ← List.append_assoc]; exact List.Perm.append_right _ List.perm_append_comm)))))))))))))))
theorem St.f16 {w0 w : World} {H : View} {L : Seg} {a b c d e f g h i j k l m n o p : Seg} (hh : St w0 H (a ++ (b ++ (c ++ (d ++ (e ++ (f ++ (g ++ (h ++ (i ++ (j ++ (k ++ (l ++ (m ++ (n ++ (o ++ (p ++ L)))))))))))))))) w) : St w0 H (p ++ (a ++ (b ++ (c ++ (d ++ (e ++ (f ++ (g ++ (h ++ (i ++ (j ++ (k ++ (l ++ (m ++ (n ++ (o ++ L)))))))))))))))) w := St.f15 (L := o ++ L) (hh.perm (List.Perm.append_left a (List.Perm.append_left b (List.Perm.append_left c (List.Perm.append_left d (List.Perm.append_left e (List.Perm.append_left f (List.Perm.append_left g (List.Perm.append_left h (List.Perm.append_left i (List.Perm.append_left j (List.Perm.append_left k (List.Perm.append_left l (List.Perm.append_left m (List.Perm.append_left n (by rw [← List.append_assoc, ← List.append_assoc]; exact List.Perm.append_right _ List.perm_append_comm))))))))))))))))
theorem St.f17 {w0 w : World} {H : View} {L : Seg} {a b c d e f g h i j k l m n o p q : Seg} (hh : St w0 H (a ++ (b ++ (c ++ (d ++ (e ++ (f ++ (g ++ (h ++ (i ++ (j ++ (k ++ (l ++ (m ++ (n ++ (o ++ (p ++ (q ++ L))))))))))))))))) w) : St w0 H (q ++ (a ++ (b ++ (c ++ (d ++ (e ++ (f ++ (g ++ (h ++ (i ++ (j ++ (k ++ (l ++ (m ++ (n ++ (o ++ (p ++ L))))))))))))))))) w := St.f16 (L := p ++ L) (hh.perm (List.Perm.append_left a (List.Perm.append_left b (List.Perm.append_left c (List.Perm.append_left d (List.Perm.append_left e (List.Perm.append_left f (List.Perm.append_left g (List.Perm.append_left h (List.Perm.append_left i (List.Perm.append_left j (List.Perm.append_left k (List.Perm.append_left l (List.Perm.append_left m (List.Perm.append_left n (List.Perm.append_left o (by rw [← List.append_assoc, ← List.append_assoc]; exact List.Perm.append_right _ List.perm_append_comm)))))))))))))))))
theorem St.f18 {w0 w : World} {H : View} {L : Seg} {a b c d e f g h i j k l m n o p q r : Seg} (hh : St w0 H (a ++ (b ++ (c ++ (d ++ (e ++ (f ++ (g ++ (h ++ (i ++ (j ++ (k ++ (l ++ (m ++ (n ++ (o ++ (p ++ (q ++ (r ++ L)))))))))))))))))) w) : St w0 H (r ++ (a ++ (b ++ (c ++ (d ++ (e ++ (f ++ (g ++ (h ++ (i ++ (j ++ (k ++ (l ++ (m ++ (n ++ (o ++ (p ++ (q ++ L)))))))))))))))))) w := St.f17 (L := q ++ L) (hh.perm (List.Perm.append_left a (List.Perm.append_left b (List.Perm.append_left c (List.Perm.append_left d (List.Perm.append_left e (List.Perm.append_left f (List.Perm.append_left g (List.Perm.append_left h (List.Perm.append_left i (List.Perm.append_left j (List.Perm.append_left k (List.Perm.append_left l (List.Perm.append_left m (List.Perm.append_left n (List.Perm.append_left o (List.Perm.append_left p (by rw [← List.append_assoc, ← List.append_assoc]; exact List.Perm.append_right _ List.perm_append_comm))))))))))))))))))
theorem St.f19 {w0 w : World} {H : View} {L : Seg} {a b c d e f g h i j k l m n o p q r s : Seg} (hh : St w0 H (a ++ (b ++ (c ++ (d ++ (e ++ (f ++ (g ++ (h ++ (i ++ (j ++ (k ++ (l ++ (m ++ (n ++ (o ++ (p ++ (q ++ (r ++ (s ++ L))))))))))))))))))) w) : St w0 H (s ++ (a ++ (b ++ (c ++ (d ++ (e ++ (f ++ (g ++ (h ++ (i ++ (j ++ (k ++ (l ++ (m ++ (n ++ (o ++ (p ++ (q ++ (r ++ L))))))))))))))))))) w := St.f18 (L := r ++ L) (hh.perm (List.Perm.append_left a (List.Perm.append_left b (List.Perm.append_left c (List.Perm.append_left d (List.Perm.append_left e (List.Perm.append_left f (List.Perm.append_left g (List.Perm.append_left h (List.Perm.append_left i (List.Perm.append_left j (List.Perm.append_left k (List.Perm.append_left l (List.Perm.append_left m (List.Perm.append_left n (List.Perm.append_left o (List.Perm.append_left p (List.Perm.append_left q (by rw [← List.append_assoc, ← List.append_assoc]; exact List.Perm.append_right _ List.perm_append_comm)))))))))))))))))))
theorem St.f20 {w0 w : World} {H : View} {L : Seg} {a b c d e f g h i j k l m n o p q r s t : Seg} (hh : St w0 H (a ++ (b ++ (c ++ (d ++ (e ++ (f ++ (g ++ (h ++ (i ++ (j ++ (k ++ (l ++ (m ++ (n ++ (o ++ (p ++ (q ++ (r ++ (s ++ (t ++ L)))))))))))))))))))) w) : St w0 H (t ++ (a ++ (b ++ (c ++ (d ++ (e ++ (f ++ (g ++ (h ++ (i ++ (j ++ (k ++ (l ++ (m ++ (n ++ (o ++ (p ++ (q ++ (r ++ (s ++ L)))))))))))))))))))) w := St.f19 (L := s ++ L) (hh.perm (List.Perm.append_left a (List.Perm.append_left b (List.Perm.append_left c (List.Perm.append_left d (List.Perm.append_left e (List.Perm.append_left f (List.Perm.append_left g (List.Perm.append_left h (List.Perm.append_left i (List.Perm.append_left j (List.Perm.append_left k (List.Perm.append_left l (List.Perm.append_left m (List.Perm.append_left n (List.Perm.append_left o (List.Perm.append_left p (List.Perm.append_left q (List.Perm.append_left r (by rw [← List.append_assoc, ← List.append_assoc]; exact List.Perm.append_right _ List.perm_append_comm))))))))))))))))))))

/-! ### More arithmetic -/
section ex
variable {P : Program} {n : Nat} {l : List (Nat × Value)} {C : World → Prop} {dst : Option Tmp} {ty : TypeId} {pos : String} {af : Array Edge} {gd : Option (Nat × Bool)} {w0 : World} {H : View} {L : Seg}
theorem exQ {D : Value → Prop} {o : Oper} {fp : Seg} {C : World → Prop} (h : ∃ u, D u ∧ ∀ K L, View.le H K → Exv P n l (St w0 K (fp ++ L)) o u) (L : Seg) (hC : ∀ w, C w → St w0 H (fp ++ L) w) : ∃ u, D u ∧ Exv P n l C o u := let ⟨u, h1, h2⟩ := h; ⟨u, h1, (h2 H L (View.le.refl _)).of hC⟩
theorem exQv {v : Value} {o : Oper} {fp : Seg} {C : World → Prop} (h : ∀ K L, View.le H K → Exv P n l (St w0 K (fp ++ L)) o v) (L : Seg) (hC : ∀ w, C w → St w0 H (fp ++ L) w) : Exv P n l C o v := (h H L (View.le.refl _)).of hC
theorem ex_quo {t t' : TypeId} {x y : Operand} {p q : Int} (hx : opv l x = some (.int .i64 p)) (hy : opv l y = some (.int .i64 q)) (h : q ≠ 0 ∧ I64 (p.tdiv q)) :
    Exv P n l C ⟨dst, .binOp .quo t x y t', ty, pos, af, gd⟩ (.int .i64 (p.tdiv q)) := ex_bin hx hy fun w => by simp [binOp, Op.intDiv, h.1, h.2.wrap]
theorem I64.tmod {p q : Int} (hp : I64 p) : I64 (p.tmod q) := by
  unfold I64 at *
  have h1 : (p.tmod q).natAbs ≤ p.natAbs := by rw [Int.natAbs_tmod]; exact Nat.mod_le _ _
  have h2 : 0 ≤ p → 0 ≤ p.tmod q := fun h => Int.tmod_nonneg q h
  rcases Int.le_total 0 p with h | h
  · have := h2 h; omega
  · have h3 : p.tmod q ≤ 0 := by
      have := Int.tmod_nonneg q (a := -p) (by omega)
      rw [Int.neg_tmod] at this; omega
    omega
theorem ex_rem {t t' : TypeId} {x y : Operand} {p q : Int} (hx : opv l x = some (.int .i64 p)) (hy : opv l y = some (.int .i64 q)) (h : q ≠ 0) :
    Exv P n l C ⟨dst, .binOp .rem t x y t', ty, pos, af, gd⟩ (.int .i64 (p.tmod q)) := ex_bin hx hy fun w => by simp [binOp, Op.intDiv, h]
theorem run_binS {op : BinOp} {t : TypeId} {x y : Operand} {k k' : IntKind} {p q : Int} {w : World} {r : Value} (h : (binOp op t (.int k p) (.int k' q)).run P w = .ok r w) :
    (do eqGuard op t x y (.int k p) (.int k' q); binOp op t (.int k p) (.int k' q)).run P w = .ok r w := by
  have : (eqGuard op t x y (.int k p) (.int k' q)).run P w = .ok () w := by
    unfold eqGuard
    cases op <;> rfl
  rw [Sem.run_bind, this]
  exact h
theorem ex_shl {t t' : TypeId} {x y : Operand} {k' : IntKind} {p q : Int} (hx : opv l x = some (.int .i64 p)) (hy : opv l y = some (.int k' q)) (h : 0 ≤ q ∧ q < 64 ∧ I64 (p * 2 ^ q.toNat)) :
    Exv P n l C ⟨dst, .binOp .shl t x y t', ty, pos, af, gd⟩ (.int .i64 (p * 2 ^ q.toNat)) := fun w _ a ha => by
  have hm : min q.toNat IntKind.i64.bits = q.toNat := by show min q.toNat 64 = q.toNat; omega
  have : (binOp .shl t (.int .i64 p) (.int k' q)).run P w = .ok (.int .i64 (p * 2 ^ q.toNat)) w := by
    simp only [binOp, Op.shift]
    rw [if_neg (by omega), hm]
    simp [h.2.2.wrap]
  simp only [execOp, ha.eval hx, ha.eval hy]
  rw [Sem.run_bind, run_binS this]
  rfl
theorem ex_shr {t t' : TypeId} {x y : Operand} {k' : IntKind} {p q : Int} (hx : opv l x = some (.int .i64 p)) (hy : opv l y = some (.int k' q)) (h : 0 ≤ q ∧ q < 64) :
    Exv P n l C ⟨dst, .binOp .shr t x y t', ty, pos, af, gd⟩ (.int .i64 (p.fdiv (2 ^ q.toNat))) := fun w _ a ha => by
  have hm : min q.toNat IntKind.i64.bits = q.toNat := by show min q.toNat 64 = q.toNat; omega
  have : (binOp .shr t (.int .i64 p) (.int k' q)).run P w = .ok (.int .i64 (p.fdiv (2 ^ q.toNat))) w := by
    simp only [binOp, Op.shift]
    rw [if_neg (by omega), hm]
    simp
  simp only [execOp, ha.eval hx, ha.eval hy]
  rw [Sem.run_bind, run_binS this]
  rfl
theorem I64.fdiv2 {p : Int} {k : Nat} (hp : I64 p) : I64 (p.fdiv (2 ^ k)) := by
  unfold I64 at *
  have h1 : (0 : Int) < 2 ^ k := Int.pow_pos (by omega)
  have h2 : p.fdiv (2 ^ k) = p / 2 ^ k := Int.fdiv_eq_ediv_of_nonneg _ (by omega)
  rw [h2]
  rcases Int.le_total 0 p with h | h
  · have := Int.ediv_nonneg h (Int.le_of_lt h1)
    have := Int.ediv_le_self (2 ^ k) h
    omega
  · have h3 : p / 2 ^ k ≤ 0 := by
      have := Int.ediv_le_ediv (c := 2 ^ k) h1 h
      simpa using this
    have h4 : p ≤ p / 2 ^ k := by
      rw [Int.le_ediv_iff_mul_le h1]
      have : (1 : Int) ≤ 2 ^ k := h1
      have h5 : p * 2 ^ k ≤ p * 1 := Int.mul_le_mul_of_nonpos_left h this
      omega
    omega
/-- Bits of numbers that are not below 0. -/
def nat2 (f : Nat → Nat → Nat) (p q : Int) : Int := (f p.toNat q.toNat : Nat)
theorem bits_wrap {r : Nat} (h : r < 2 ^ 63) : IntKind.i64.wrap ((BitVec.ofNat 64 r).toNat : Int) = (r : Int) := by
  rw [BitVec.toNat_ofNat, Nat.mod_eq_of_lt (by omega)]
  exact I64.wrap (by unfold I64; omega)
theorem ofInt_nat {p : Int} (h : 0 ≤ p) : BitVec.ofInt 64 p = BitVec.ofNat 64 p.toNat := by
  rw [← BitVec.ofInt_natCast]; congr 1; omega
theorem ex_and {t t' : TypeId} {x y : Operand} {p q : Int} (hx : opv l x = some (.int .i64 p)) (hy : opv l y = some (.int .i64 q)) (hp : I64 p) (h : 0 ≤ p ∧ 0 ≤ q) :
    Exv P n l C ⟨dst, .binOp .and t x y t', ty, pos, af, gd⟩ (.int .i64 (nat2 (· &&& ·) p q)) := ex_bin hx hy fun w => by
  have hl : p.toNat &&& q.toNat < 2 ^ 63 := Nat.lt_of_le_of_lt Nat.and_le_left (by unfold I64 at hp; omega)
  have e : (binOp .and t (.int .i64 p) (.int .i64 q)).run P w = .ok (.int .i64 (IntKind.i64.wrap ((BitVec.ofInt 64 p &&& BitVec.ofInt 64 q).toNat : Int))) w := rfl
  rw [e, ofInt_nat h.1, ofInt_nat h.2, ← BitVec.ofNat_and, bits_wrap hl]; rfl
theorem ex_or {t t' : TypeId} {x y : Operand} {p q : Int} (hx : opv l x = some (.int .i64 p)) (hy : opv l y = some (.int .i64 q)) (hp : I64 p) (hq : I64 q) (h : 0 ≤ p ∧ 0 ≤ q) :
    Exv P n l C ⟨dst, .binOp .or t x y t', ty, pos, af, gd⟩ (.int .i64 (nat2 (· ||| ·) p q)) := ex_bin hx hy fun w => by
  have hl : p.toNat ||| q.toNat < 2 ^ 63 := Nat.or_lt_two_pow (by unfold I64 at hp; omega) (by unfold I64 at hq; omega)
  have e : (binOp .or t (.int .i64 p) (.int .i64 q)).run P w = .ok (.int .i64 (IntKind.i64.wrap ((BitVec.ofInt 64 p ||| BitVec.ofInt 64 q).toNat : Int))) w := rfl
  rw [e, ofInt_nat h.1, ofInt_nat h.2, ← BitVec.ofNat_or, bits_wrap hl]; rfl
theorem ex_xor {t t' : TypeId} {x y : Operand} {p q : Int} (hx : opv l x = some (.int .i64 p)) (hy : opv l y = some (.int .i64 q)) (hp : I64 p) (hq : I64 q) (h : 0 ≤ p ∧ 0 ≤ q) :
    Exv P n l C ⟨dst, .binOp .xor t x y t', ty, pos, af, gd⟩ (.int .i64 (nat2 (· ^^^ ·) p q)) := ex_bin hx hy fun w => by
  have hl : p.toNat ^^^ q.toNat < 2 ^ 63 := Nat.xor_lt_two_pow (by unfold I64 at hp; omega) (by unfold I64 at hq; omega)
  have e : (binOp .xor t (.int .i64 p) (.int .i64 q)).run P w = .ok (.int .i64 (IntKind.i64.wrap ((BitVec.ofInt 64 p ^^^ BitVec.ofInt 64 q).toNat : Int))) w := rfl
  rw [e, ofInt_nat h.1, ofInt_nat h.2, ← BitVec.ofNat_xor, bits_wrap hl]; rfl
theorem nat2_and_I64 {p q : Int} (hp : I64 p) : I64 (nat2 (· &&& ·) p q) := by
  have hl : p.toNat &&& q.toNat ≤ p.toNat := Nat.and_le_left
  show I64 ((p.toNat &&& q.toNat : Nat) : Int)
  unfold I64 at *; omega
theorem nat2_or_I64 {p q : Int} (hp : I64 p) (hq : I64 q) : I64 (nat2 (· ||| ·) p q) := by
  have hl : p.toNat ||| q.toNat < 2 ^ 63 := Nat.or_lt_two_pow (by unfold I64 at hp; omega) (by unfold I64 at hq; omega)
  show I64 ((p.toNat ||| q.toNat : Nat) : Int)
  unfold I64 at *; omega
theorem nat2_xor_I64 {p q : Int} (hp : I64 p) (hq : I64 q) : I64 (nat2 (· ^^^ ·) p q) := by
  have hl : p.toNat ^^^ q.toNat < 2 ^ 63 := Nat.xor_lt_two_pow (by unfold I64 at hp; omega) (by unfold I64 at hq; omega)
  show I64 ((p.toNat ^^^ q.toNat : Nat) : Int)
  unfold I64 at *; omega
/-- Pointers against nil. -/
theorem ex_ptr_eql {t t' : TypeId} {x : Operand} {p : Option Addr} (ht : P.underlying t = some (.pointer (P.pointee t))) (hx : opv l x = some (.pointer p)) :
    Exv P n l C ⟨dst, .binOp .eql t x (.const (.pointer none)) t', ty, pos, af, gd⟩ (.bool p.isNone) := ex_eqv (u := .pointer p) (v := .pointer none) hx rfl (fun w => by cases p <;> simp [eqGuard]) fun w => by
  simp [binOp, run_equal_pointer_nil w t p ht]
theorem ex_ptr_neq {t t' : TypeId} {x : Operand} {p : Option Addr} (ht : P.underlying t = some (.pointer (P.pointee t))) (hx : opv l x = some (.pointer p)) :
    Exv P n l C ⟨dst, .binOp .neq t x (.const (.pointer none)) t', ty, pos, af, gd⟩ (.bool (!p.isNone)) := ex_neqv (u := .pointer p) (v := .pointer none) hx rfl (fun w => by cases p <;> simp [eqGuard]) fun w => by
  simp [binOp, run_equal_pointer_nil w t p ht]
end ex
end Go.Vc
