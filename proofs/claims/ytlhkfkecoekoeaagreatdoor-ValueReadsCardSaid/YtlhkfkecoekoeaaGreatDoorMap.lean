/- Maps that are owned: an object of entries; lookup, update, delete, clear, ranges over them; more orders of segments; more arithmetic. -/
import Derived.Test.YtlhkfkecoekoeaaGreatDoorElem
import Derived.MapKept
import Derived.WideKeyRuns
import Derived.Maps.RangeRun
import Derived.Laws.StructEq
set_option linter.unusedVariables false
set_option linter.unusedSimpArgs false
namespace Go.Vc
open Go
section
variable {κ ν : Type} [DecidableEq κ]
def mfind : List (κ × ν) → κ → Option ν
  | [], _ => none
  | p :: m, k => if k = p.1 then some p.2 else mfind m k
end
structure KC (κ : Type) where
  enc : κ → Value
  ok : κ → Prop
  inj : ∀ {a b : κ}, enc a = enc b → a = b
  same : ∀ a : κ, Instr.sameBits 10000 (enc a) (enc a) = true
def kInt : KC Int where
  enc := fun x => .int .i64 x
  ok := I64
  inj := fun h => by cases h; rfl
  same := fun a => by simp [Instr.sameBits]
def kTri : KC (Int × Int × Int) where
  enc := fun x => .agg #[.int .i64 x.1, .int .i64 x.2.1, .int .i64 x.2.2]
  ok := fun x => I64 x.1 ∧ I64 x.2.1 ∧ I64 x.2.2
  inj := fun {a b} h => by obtain ⟨a1, a2, a3⟩ := a; obtain ⟨b1, b2, b3⟩ := b; simp at h; obtain ⟨rfl, rfl, rfl⟩ := h; rfl
  same := fun a => by simp [Instr.sameBits]
def fnde {κ : Type} [DecidableEq κ] (x : κ) : List κ → List MapEntry → Nat → Option (Nat × Value)
  | k :: ks, e :: es, i => if x = k then some (i, e.val) else fnde x ks es (i + 1)
  | _, _, _ => none
structure KeyOK {κ : Type} [DecidableEq κ] (P : Program) (kt : TypeId) (kc : KC κ) : Prop where
  check : ∀ (em : Bool) (x : κ) (w : World), (Instr.checkKey em 10000 kt (kc.enc x)).run P w = .ok () w
  find : ∀ (x : κ) (es : List MapEntry) (ks : List κ) (w : World), es.map (·.key) = ks.map kc.enc → (Instr.findKey kt (kc.enc x) es).run P w = .ok (fnde x ks es 0) w
theorem findAsking_ok {κ : Type} [DecidableEq κ] {P : Program} {kt : TypeId} {kc : KC κ} (heq : ∀ (a b : κ) (w : World), (Op.equal kt (kc.enc a) (kc.enc b)).run P w = .ok (decide (a = b)) w) (x : κ) (w : World) :
    ∀ (es : List MapEntry) (ks : List κ) (i : Nat), es.map (·.key) = ks.map kc.enc → (Instr.findAsking kt (kc.enc x) es i).run P w = .ok (fnde x ks es i) w
  | [], [], i, _ => by simp [Instr.findAsking, fnde]
  | e :: es, k :: ks, i, h => by
    simp only [List.map_cons, List.cons.injEq] at h
    obtain ⟨h1, h2⟩ := h
    unfold Instr.findAsking fnde
    rw [h1]
    by_cases hx : x = k
    · simp [heq, hx]
    · simp [heq, hx, findAsking_ok heq x w es ks (i + 1) h2]
  | [], _ :: _, _, h => by simp at h
  | _ :: _, [], _, h => by simp at h
theorem KeyOK.int {P : Program} {kt : TypeId} (h : P.underlying kt = some (.int .i64)) : KeyOK P kt kInt where
  check := fun em x w => MapKept.run_checkKey h (by simp [MapKept.IsKey, kInt]) em 9999
  find := fun x es ks w hk => by
    have key : ∀ (es : List MapEntry) (ks : List Int) (i : Nat), es.map (·.key) = ks.map kInt.enc → Instr.findNow (.int .i64) (kInt.enc x) es i = some (fnde x ks es i) := by
      intro es
      induction es with
      | nil => intro ks i h; cases ks with
        | nil => rfl
        | cons _ _ => simp at h
      | cons e es ih => intro ks i h; cases ks with
        | nil => simp at h
        | cons k ks =>
          simp only [List.map_cons, List.cons.injEq] at h
          obtain ⟨h1, h2⟩ := h
          unfold Instr.findNow fnde
          have : Instr.sameNow (.int .i64) (kInt.enc x) e.key = some (x == k) := by rw [h1]; simp [kInt, Instr.sameNow]
          rw [this]
          by_cases hx : x = k
          · simp [hx]
          · have : (x == k) = false := by simp [hx]
            simp [this, hx, ih ks (i + 1) h2]
    exact MapKept.run_findKey h (key es ks 0 hk)
theorem KeyOK.struct {P : Program} {kt : TypeId} {f0 f1 f2 : Field} (hu : P.underlying kt = some (.struct #[f0, f1, f2])) (hp : P.stoodInHeld kt = false) (n0 : f0.name ≠ "_") (n1 : f1.name ≠ "_") (n2 : f2.name ≠ "_")
    (o0 : f0.offset = 0) (o1 : f1.offset = 1) (o2 : f2.offset = 2) (u0 : P.underlying f0.type = some (.int .i64)) (u1 : P.underlying f1.type = some (.int .i64)) (u2 : P.underlying f2.type = some (.int .i64))
    (a0 : ∀ w, (isAgg f0.type).run P w = .ok false w) (a1 : ∀ w, (isAgg f1.type).run P w = .ok false w) (a2 : ∀ w, (isAgg f2.type).run P w = .ok false w) : KeyOK P kt kTri := by
  have hpt : ∀ (f : Field) (x : Int × Int × Int) (w : World) (j : Nat) (v : Value), (∀ w, (isAgg f.type).run P w = .ok false w) → f.offset = j → (#[Value.int .i64 x.1, .int .i64 x.2.1, .int .i64 x.2.2] : Array Value)[j]? = some v →
      (part f.type #[Value.int .i64 x.1, .int .i64 x.2.1, .int .i64 x.2.2] f.offset).run P w = .ok v w := by
    intro f x w j v hag ho hv
    subst ho
    simp [part, hag, hv]
  refine ⟨fun em x w => ?_, fun x es ks w hk => ?_⟩
  · have hc : ∀ (t : TypeId) (a : Int) (n : Nat), P.underlying t = some (.int .i64) → (Instr.checkKey em (n + 1) t (.int .i64 a)).run P w = .ok () w := fun t a n h => MapKept.run_checkKey h (by simp [MapKept.IsKey]) em n
    show (Instr.checkKey em (9999 + 1) kt (kTri.enc x)).run P w = _
    unfold Instr.checkKey
    simp only [Sem.run_bind, run_underlying hu, Result.andThen_ok, kTri]
    rw [← Array.forIn_toList]
    simp [List.forIn_cons, n0, n1, n2, hpt f0 x w 0 (.int .i64 x.1) a0 o0 rfl, hpt f1 x w 1 (.int .i64 x.2.1) a1 o1 rfl, hpt f2 x w 2 (.int .i64 x.2.2) a2 o2 rfl, hc f0.type x.1 9998 u0, hc f1.type x.2.1 9998 u1, hc f2.type x.2.2 9998 u2]
  · rw [run_findKey_eq w (by simp [hu])]
    refine findAsking_ok (kc := kTri) (fun a b w => ?_) x w es ks 0 hk
    have hf : P.fieldsOf kt = #[f0, f1, f2] := by simp [Program.fieldsOf, hu]
    have := run_equalIn_struct (P := P) w 9999 kt #[.int .i64 a.1, .int .i64 a.2.1, .int .i64 a.2.2] #[.int .i64 b.1, .int .i64 b.2.1, .int .i64 b.2.2] (by rw [hf]; exact hu) hp
    show (Op.equalIn (9999 + 1) kt _ _).run P w = _
    refine this.trans ?_
    rw [hf]
    have hE : ∀ (t : TypeId) (a b : Int) (w : World), P.underlying t = some (.int .i64) → (Op.equalIn 9999 t (.int .i64 a) (.int .i64 b)).run P w = .ok (a == b) w := fun t a b w h => run_equalIn_int w 9998 t .i64 .i64 a b h
    simp only [Op.eqFields, Sem.run_bind, n0, n1, n2, ne_eq, not_false_eq_true, if_true, hpt f0 a w 0 (.int .i64 a.1) a0 o0 rfl, hpt f0 b w 0 (.int .i64 b.1) a0 o0 rfl, hpt f1 a w 1 (.int .i64 a.2.1) a1 o1 rfl, hpt f1 b w 1 (.int .i64 b.2.1) a1 o1 rfl, hpt f2 a w 2 (.int .i64 a.2.2) a2 o2 rfl, hpt f2 b w 2 (.int .i64 b.2.2) a2 o2 rfl,
      Result.andThen_ok, hE f0.type _ _ _ u0, hE f1.type _ _ _ u1, hE f2.type _ _ _ u2, Sem.run_ite, Sem.run_pure]
    obtain ⟨a1, a2, a3⟩ := a
    obtain ⟨b1, b2, b3⟩ := b
    simp only [Prod.mk.injEq]
    by_cases h1 : a1 = b1 <;> by_cases h2 : a2 = b2 <;> by_cases h3 : a3 = b3 <;> simp [h1, h2, h3]
def MRel {κ ν : Type} (kc : KC κ) (c : Codec ν) (H : View) : List MapEntry → List (κ × ν) → Prop
  | [], [] => True
  | e :: es, p :: m => e.key = kc.enc p.1 ∧ kc.ok p.1 ∧ c.rep H [e.val] p.2 ∧ MRel kc c H es m
  | _, _ => False
section
variable {κ ν : Type} {kc : KC κ} {c : Codec ν} {H K : View}
theorem MRel.mono (hle : View.le H K) : ∀ {es : List MapEntry} {m : List (κ × ν)}, MRel kc c H es m → MRel kc c K es m
  | [], [], _ => trivial
  | _ :: _, _ :: _, ⟨h1, h2, h3, h4⟩ => ⟨h1, h2, c.mono hle h3, MRel.mono hle h4⟩
  | [], _ :: _, h => h.elim
  | _ :: _, [], h => h.elim
theorem MRel.keys : ∀ {es : List MapEntry} {m : List (κ × ν)}, MRel kc c H es m → es.map (·.key) = (m.map (·.1)).map kc.enc
  | [], [], _ => rfl
  | _ :: _, _ :: _, ⟨h1, _, _, h4⟩ => by simp only [List.map_cons, h1, MRel.keys h4]
  | [], _ :: _, h => h.elim
  | _ :: _, [], h => h.elim
theorem MRel.length : ∀ {es : List MapEntry} {m : List (κ × ν)}, MRel kc c H es m → es.length = m.length
  | [], [], _ => rfl
  | _ :: _, _ :: _, ⟨_, _, _, h4⟩ => by simp [MRel.length h4]
  | [], _ :: _, h => h.elim
  | _ :: _, [], h => h.elim
theorem MRel.append : ∀ {es es' : List MapEntry} {m m' : List (κ × ν)}, MRel kc c H es m → MRel kc c H es' m' → MRel kc c H (es ++ es') (m ++ m')
  | [], _, [], _, _, h => h
  | _ :: _, _, _ :: _, _, ⟨h1, h2, h3, h4⟩, h => ⟨h1, h2, h3, MRel.append h4 h⟩
  | [], _, _ :: _, _, h, _ => h.elim
  | _ :: _, _, [], _, h, _ => h.elim
theorem MRel.mem : ∀ {es : List MapEntry} {m : List (κ × ν)}, MRel kc c H es m → ∀ e ∈ es, ∃ p ∈ m, e.key = kc.enc p.1 ∧ kc.ok p.1 ∧ c.rep H [e.val] p.2
  | [], [], _, _, h => by cases h
  | _ :: _, p :: _, ⟨h1, h2, h3, h4⟩, e, h => by
    rcases List.mem_cons.1 h with rfl | h
    · exact ⟨p, by simp, h1, h2, h3⟩
    · obtain ⟨q, hq, hr⟩ := MRel.mem h4 e h
      exact ⟨q, by simp [hq], hr⟩
  | [], _ :: _, h, _, _ => h.elim
  | _ :: _, [], h, _, _ => h.elim
variable [DecidableEq κ]
theorem MRel.at : ∀ {es : List MapEntry} {m : List (κ × ν)} (k : κ) (i : Nat), MRel kc c H es m →
    (mfind m k = none ∧ fnde k (m.map (·.1)) es i = none ∧ (∀ p ∈ m, p.1 ≠ k)) ∨
    ∃ (v : ν) (e : MapEntry) (es1 es2 : List MapEntry) (m1 m2 : List (κ × ν)), mfind m k = some v ∧ fnde k (m.map (·.1)) es i = some (i + es1.length, e.val) ∧ es = es1 ++ e :: es2 ∧ m = m1 ++ (k, v) :: m2 ∧ (∀ p ∈ m1, p.1 ≠ k) ∧
      MRel kc c H es1 m1 ∧ MRel kc c H es2 m2 ∧ e.key = kc.enc k ∧ kc.ok k ∧ c.rep H [e.val] v
  | [], [], k, i, _ => .inl ⟨rfl, rfl, by simp⟩
  | e :: es, (k', v') :: m, k, i, ⟨h1, h2, h3, h4⟩ => by
    by_cases hk : k = k'
    · subst hk
      exact .inr ⟨v', e, [], es, [], m, by simp [mfind], by simp [fnde], rfl, rfl, by simp, trivial, h4, h1, h2, h3⟩
    · rcases MRel.at k (i + 1) h4 with ⟨g1, g2, g3⟩ | ⟨v, e', es1, es2, m1, m2, g1, g2, g3, g4, g5, g6, g7, g8, g9, g10⟩
      · refine .inl ⟨by simp [mfind, hk, g1], by simp [fnde, hk, g2], fun p hp => ?_⟩
        rcases List.mem_cons.1 hp with rfl | hp
        · exact fun e => hk e.symm
        · exact g3 p hp
      · refine .inr ⟨v, e', e :: es1, es2, (k', v') :: m1, m2, by simp [mfind, hk, g1], by simp [fnde, hk, g2]; omega, by simp [g3], by simp [g4], fun p hp => ?_, ⟨h1, h2, h3, g6⟩, g7, g8, g9, g10⟩
        rcases List.mem_cons.1 hp with rfl | hp
        · exact fun e => hk e.symm
        · exact g5 p hp
  | [], _ :: _, _, _, h => h.elim
  | _ :: _, [], _, _, h => h.elim
end
def OwnMp {κ ν : Type} (H : View) (kc : KC κ) (c : Codec ν) (v : Value) (m : List (κ × ν)) (fp : Seg) : Prop :=
  ∃ r es clock, v = .map (some r) ∧ fp = [(r, .map es clock)] ∧ MRel kc c H es.toList m ∧ (m.map (·.1)).Nodup ∧ (∀ e ∈ es.toList, e.born < clock) ∧ (es.toList.map (·.born)).Nodup
def ItOk {κ : Type} (kc : KC κ) (fpM : Seg) (it : Value) (fpI : Seg) (sn : List κ) : Prop :=
  ∃ r es clock b seen since last, fpM = [(r, .map es clock)] ∧ it = .pointer (some ⟨b, 0, none⟩) ∧ fpI = [(b, .mapIter (some r) since seen last)] ∧ since ≤ last ∧ since ≤ clock ∧ (∀ e ∈ es.toList, e.born < since) ∧
    (∀ e ∈ es.toList, ∀ k, e.key = kc.enc k → (seen.contains e.born = true ↔ k ∈ sn))
section ops
variable {κ ν : Type} {kc : KC κ} {c : Codec ν} {P : Program} {ops : Array Oper} {Q : Exit → Act → World → Prop} {n : Nat} {l : List (Nat × Value)} {rest : List Oper} {w0 w : World} {H K : View} {L : Seg} {C : World → Prop} {dst : Option Tmp} {ty : TypeId} {pos : String} {af : Array Edge} {gd : Option (Nat × Bool)}
theorem OwnMp.mono {v : Value} {m : List (κ × ν)} {fp : Seg} (h : OwnMp H kc c v m fp) (hle : View.le H K) : OwnMp K kc c v m fp := by
  obtain ⟨r, es, clock, h1, h2, h3, h4⟩ := h
  exact ⟨r, es, clock, h1, h2, h3.mono hle, h4⟩
theorem OwnMp.one {v : Value} {m : List (κ × ν)} {fp : Seg} (h : OwnMp H kc c v m fp) : v.oneCell' = true := by obtain ⟨r, es, clock, rfl, _⟩ := h; rfl
theorem OwnMp.nodup {v : Value} {m : List (κ × ν)} {fp : Seg} (h : OwnMp H kc c v m fp) : (m.map (·.1)).Nodup := by obtain ⟨r, es, clock, _, _, _, h, _⟩ := h; exact h
theorem WL.range {d : Nat} {t kt et : TypeId} {x : Operand} {v : Value} {m : List (κ × ν)} {fp : Seg} (hdn : Nat.blt d n = true) (ht : P.underlying t = some (.map kt et)) (hx : opv l x = some v) (hw : St w0 H (fp ++ L) w) (hm : OwnMp H kc c v m fp)
    (go : ∀ b w' fpI, ItOk kc fp (.pointer (some ⟨b, 0, none⟩)) fpI ([] : List κ) → St w0 H (fpI ++ (fp ++ L)) w' → WL P ops Q n ((d, .pointer (some ⟨b, 0, none⟩)) :: l) rest w') :
    WL P ops Q n l (⟨some d, .range t x, ty, pos, af, none⟩ :: rest) w := by
  obtain ⟨r, es, clock, rfl, rfl, h3, h4, h5, h6⟩ := hm
  have hb := hw.own (r, .map es clock) (by simp)
  refine WL.turn rfl rfl hdn (fun a ha => ?_) (go w.heap.size _ _ ⟨r, es, clock, _, #[], clock, clock, rfl, rfl, rfl, Nat.le_refl _, Nat.le_refl _, h5, fun e he k hk => by simp⟩ (hw.alloc _))
  simp [execOp, ha.eval hx, run_range_map w t kt et r es clock ht hb]
end ops
theorem St.f7 {w0 w : World} {H : View} {L : Seg} {a b c d e f g : Seg} (hh : St w0 H (a ++ (b ++ (c ++ (d ++ (e ++ (f ++ (g ++ L))))))) w) : St w0 H (g ++ (a ++ (b ++ (c ++ (d ++ (e ++ (f ++ L))))))) w := St.f6 (L := f ++ L) (hh.perm (List.Perm.append_left a (List.Perm.append_left b (List.Perm.append_left c (List.Perm.append_left d (List.Perm.append_left e (by rw [← List.append_assoc, ← List.append_assoc]; exact List.Perm.append_right _ List.perm_append_comm)))))))
theorem St.f8 {w0 w : World} {H : View} {L : Seg} {a b c d e f g h : Seg} (hh : St w0 H (a ++ (b ++ (c ++ (d ++ (e ++ (f ++ (g ++ (h ++ L)))))))) w) : St w0 H (h ++ (a ++ (b ++ (c ++ (d ++ (e ++ (f ++ (g ++ L)))))))) w := St.f7 (L := g ++ L) (hh.perm (List.Perm.append_left a (List.Perm.append_left b (List.Perm.append_left c (List.Perm.append_left d (List.Perm.append_left e (List.Perm.append_left f (by rw [← List.append_assoc, ← List.append_assoc]; exact List.Perm.append_right _ List.perm_append_comm))))))))
theorem St.f9 {w0 w : World} {H : View} {L : Seg} {a b c d e f g h i : Seg} (hh : St w0 H (a ++ (b ++ (c ++ (d ++ (e ++ (f ++ (g ++ (h ++ (i ++ L))))))))) w) : St w0 H (i ++ (a ++ (b ++ (c ++ (d ++ (e ++ (f ++ (g ++ (h ++ L))))))))) w := St.f8 (L := h ++ L) (hh.perm (List.Perm.append_left a (List.Perm.append_left b (List.Perm.append_left c (List.Perm.append_left d (List.Perm.append_left e (List.Perm.append_left f (List.Perm.append_left g (by rw [← List.append_assoc, ← List.append_assoc]; exact List.Perm.append_right _ List.perm_append_comm)))))))))
theorem St.f10 {w0 w : World} {H : View} {L : Seg} {a b c d e f g h i j : Seg} (hh : St w0 H (a ++ (b ++ (c ++ (d ++ (e ++ (f ++ (g ++ (h ++ (i ++ (j ++ L)))))))))) w) : St w0 H (j ++ (a ++ (b ++ (c ++ (d ++ (e ++ (f ++ (g ++ (h ++ (i ++ L)))))))))) w := St.f9 (L := i ++ L) (hh.perm (List.Perm.append_left a (List.Perm.append_left b (List.Perm.append_left c (List.Perm.append_left d (List.Perm.append_left e (List.Perm.append_left f (List.Perm.append_left g (List.Perm.append_left h (by rw [← List.append_assoc, ← List.append_assoc]; exact List.Perm.append_right _ List.perm_append_comm))))))))))
theorem St.f11 {w0 w : World} {H : View} {L : Seg} {a b c d e f g h i j k : Seg} (hh : St w0 H (a ++ (b ++ (c ++ (d ++ (e ++ (f ++ (g ++ (h ++ (i ++ (j ++ (k ++ L))))))))))) w) : St w0 H (k ++ (a ++ (b ++ (c ++ (d ++ (e ++ (f ++ (g ++ (h ++ (i ++ (j ++ L))))))))))) w := St.f10 (L := j ++ L) (hh.perm (List.Perm.append_left a (List.Perm.append_left b (List.Perm.append_left c (List.Perm.append_left d (List.Perm.append_left e (List.Perm.append_left f (List.Perm.append_left g (List.Perm.append_left h (List.Perm.append_left i (by rw [← List.append_assoc, ← List.append_assoc]; exact List.Perm.append_right _ List.perm_append_comm)))))))))))
theorem St.f12 {w0 w : World} {H : View} {L : Seg} {a b c d e f g h i j k l : Seg} (hh : St w0 H (a ++ (b ++ (c ++ (d ++ (e ++ (f ++ (g ++ (h ++ (i ++ (j ++ (k ++ (l ++ L)))))))))))) w) : St w0 H (l ++ (a ++ (b ++ (c ++ (d ++ (e ++ (f ++ (g ++ (h ++ (i ++ (j ++ (k ++ L)))))))))))) w := St.f11 (L := k ++ L) (hh.perm (List.Perm.append_left a (List.Perm.append_left b (List.Perm.append_left c (List.Perm.append_left d (List.Perm.append_left e (List.Perm.append_left f (List.Perm.append_left g (List.Perm.append_left h (List.Perm.append_left i (List.Perm.append_left j (by rw [← List.append_assoc, ← List.append_assoc]; exact List.Perm.append_right _ List.perm_append_comm))))))))))))
theorem St.f13 {w0 w : World} {H : View} {L : Seg} {a b c d e f g h i j k l m : Seg} (hh : St w0 H (a ++ (b ++ (c ++ (d ++ (e ++ (f ++ (g ++ (h ++ (i ++ (j ++ (k ++ (l ++ (m ++ L))))))))))))) w) : St w0 H (m ++ (a ++ (b ++ (c ++ (d ++ (e ++ (f ++ (g ++ (h ++ (i ++ (j ++ (k ++ (l ++ L))))))))))))) w := St.f12 (L := l ++ L) (hh.perm (List.Perm.append_left a (List.Perm.append_left b (List.Perm.append_left c (List.Perm.append_left d (List.Perm.append_left e (List.Perm.append_left f (List.Perm.append_left g (List.Perm.append_left h (List.Perm.append_left i (List.Perm.append_left j (List.Perm.append_left k (by rw [← List.append_assoc, ← List.append_assoc]; exact List.Perm.append_right _ List.perm_append_comm)))))))))))))
theorem St.f14 {w0 w : World} {H : View} {L : Seg} {a b c d e f g h i j k l m n : Seg} (hh : St w0 H (a ++ (b ++ (c ++ (d ++ (e ++ (f ++ (g ++ (h ++ (i ++ (j ++ (k ++ (l ++ (m ++ (n ++ L)))))))))))))) w) : St w0 H (n ++ (a ++ (b ++ (c ++ (d ++ (e ++ (f ++ (g ++ (h ++ (i ++ (j ++ (k ++ (l ++ (m ++ L)))))))))))))) w := St.f13 (L := m ++ L) (hh.perm (List.Perm.append_left a (List.Perm.append_left b (List.Perm.append_left c (List.Perm.append_left d (List.Perm.append_left e (List.Perm.append_left f (List.Perm.append_left g (List.Perm.append_left h (List.Perm.append_left i (List.Perm.append_left j (List.Perm.append_left k (List.Perm.append_left l (by rw [← List.append_assoc, ← List.append_assoc]; exact List.Perm.append_right _ List.perm_append_comm))))))))))))))
theorem St.f15 {w0 w : World} {H : View} {L : Seg} {a b c d e f g h i j k l m n o : Seg} (hh : St w0 H (a ++ (b ++ (c ++ (d ++ (e ++ (f ++ (g ++ (h ++ (i ++ (j ++ (k ++ (l ++ (m ++ (n ++ (o ++ L))))))))))))))) w) : St w0 H (o ++ (a ++ (b ++ (c ++ (d ++ (e ++ (f ++ (g ++ (h ++ (i ++ (j ++ (k ++ (l ++ (m ++ (n ++ L))))))))))))))) w := St.f14 (L := n ++ L) (hh.perm (List.Perm.append_left a (List.Perm.append_left b (List.Perm.append_left c (List.Perm.append_left d (List.Perm.append_left e (List.Perm.append_left f (List.Perm.append_left g (List.Perm.append_left h (List.Perm.append_left i (List.Perm.append_left j (List.Perm.append_left k (List.Perm.append_left l (List.Perm.append_left m (by rw [← List.append_assoc, ← List.append_assoc]; exact List.Perm.append_right _ List.perm_append_comm)))))))))))))))
theorem St.f16 {w0 w : World} {H : View} {L : Seg} {a b c d e f g h i j k l m n o p : Seg} (hh : St w0 H (a ++ (b ++ (c ++ (d ++ (e ++ (f ++ (g ++ (h ++ (i ++ (j ++ (k ++ (l ++ (m ++ (n ++ (o ++ (p ++ L)))))))))))))))) w) : St w0 H (p ++ (a ++ (b ++ (c ++ (d ++ (e ++ (f ++ (g ++ (h ++ (i ++ (j ++ (k ++ (l ++ (m ++ (n ++ (o ++ L)))))))))))))))) w := St.f15 (L := o ++ L) (hh.perm (List.Perm.append_left a (List.Perm.append_left b (List.Perm.append_left c (List.Perm.append_left d (List.Perm.append_left e (List.Perm.append_left f (List.Perm.append_left g (List.Perm.append_left h (List.Perm.append_left i (List.Perm.append_left j (List.Perm.append_left k (List.Perm.append_left l (List.Perm.append_left m (List.Perm.append_left n (by rw [← List.append_assoc, ← List.append_assoc]; exact List.Perm.append_right _ List.perm_append_comm))))))))))))))))
theorem St.f17 {w0 w : World} {H : View} {L : Seg} {a b c d e f g h i j k l m n o p q : Seg} (hh : St w0 H (a ++ (b ++ (c ++ (d ++ (e ++ (f ++ (g ++ (h ++ (i ++ (j ++ (k ++ (l ++ (m ++ (n ++ (o ++ (p ++ (q ++ L))))))))))))))))) w) : St w0 H (q ++ (a ++ (b ++ (c ++ (d ++ (e ++ (f ++ (g ++ (h ++ (i ++ (j ++ (k ++ (l ++ (m ++ (n ++ (o ++ (p ++ L))))))))))))))))) w := St.f16 (L := p ++ L) (hh.perm (List.Perm.append_left a (List.Perm.append_left b (List.Perm.append_left c (List.Perm.append_left d (List.Perm.append_left e (List.Perm.append_left f (List.Perm.append_left g (List.Perm.append_left h (List.Perm.append_left i (List.Perm.append_left j (List.Perm.append_left k (List.Perm.append_left l (List.Perm.append_left m (List.Perm.append_left n (List.Perm.append_left o (by rw [← List.append_assoc, ← List.append_assoc]; exact List.Perm.append_right _ List.perm_append_comm)))))))))))))))))
theorem St.f18 {w0 w : World} {H : View} {L : Seg} {a b c d e f g h i j k l m n o p q r : Seg} (hh : St w0 H (a ++ (b ++ (c ++ (d ++ (e ++ (f ++ (g ++ (h ++ (i ++ (j ++ (k ++ (l ++ (m ++ (n ++ (o ++ (p ++ (q ++ (r ++ L)))))))))))))))))) w) : St w0 H (r ++ (a ++ (b ++ (c ++ (d ++ (e ++ (f ++ (g ++ (h ++ (i ++ (j ++ (k ++ (l ++ (m ++ (n ++ (o ++ (p ++ (q ++ L)))))))))))))))))) w := St.f17 (L := q ++ L) (hh.perm (List.Perm.append_left a (List.Perm.append_left b (List.Perm.append_left c (List.Perm.append_left d (List.Perm.append_left e (List.Perm.append_left f (List.Perm.append_left g (List.Perm.append_left h (List.Perm.append_left i (List.Perm.append_left j (List.Perm.append_left k (List.Perm.append_left l (List.Perm.append_left m (List.Perm.append_left n (List.Perm.append_left o (List.Perm.append_left p (by rw [← List.append_assoc, ← List.append_assoc]; exact List.Perm.append_right _ List.perm_append_comm))))))))))))))))))
theorem St.f19 {w0 w : World} {H : View} {L : Seg} {a b c d e f g h i j k l m n o p q r s : Seg} (hh : St w0 H (a ++ (b ++ (c ++ (d ++ (e ++ (f ++ (g ++ (h ++ (i ++ (j ++ (k ++ (l ++ (m ++ (n ++ (o ++ (p ++ (q ++ (r ++ (s ++ L))))))))))))))))))) w) : St w0 H (s ++ (a ++ (b ++ (c ++ (d ++ (e ++ (f ++ (g ++ (h ++ (i ++ (j ++ (k ++ (l ++ (m ++ (n ++ (o ++ (p ++ (q ++ (r ++ L))))))))))))))))))) w := St.f18 (L := r ++ L) (hh.perm (List.Perm.append_left a (List.Perm.append_left b (List.Perm.append_left c (List.Perm.append_left d (List.Perm.append_left e (List.Perm.append_left f (List.Perm.append_left g (List.Perm.append_left h (List.Perm.append_left i (List.Perm.append_left j (List.Perm.append_left k (List.Perm.append_left l (List.Perm.append_left m (List.Perm.append_left n (List.Perm.append_left o (List.Perm.append_left p (List.Perm.append_left q (by rw [← List.append_assoc, ← List.append_assoc]; exact List.Perm.append_right _ List.perm_append_comm)))))))))))))))))))
theorem St.f20 {w0 w : World} {H : View} {L : Seg} {a b c d e f g h i j k l m n o p q r s t : Seg} (hh : St w0 H (a ++ (b ++ (c ++ (d ++ (e ++ (f ++ (g ++ (h ++ (i ++ (j ++ (k ++ (l ++ (m ++ (n ++ (o ++ (p ++ (q ++ (r ++ (s ++ (t ++ L)))))))))))))))))))) w) : St w0 H (t ++ (a ++ (b ++ (c ++ (d ++ (e ++ (f ++ (g ++ (h ++ (i ++ (j ++ (k ++ (l ++ (m ++ (n ++ (o ++ (p ++ (q ++ (r ++ (s ++ L)))))))))))))))))))) w := St.f19 (L := s ++ L) (hh.perm (List.Perm.append_left a (List.Perm.append_left b (List.Perm.append_left c (List.Perm.append_left d (List.Perm.append_left e (List.Perm.append_left f (List.Perm.append_left g (List.Perm.append_left h (List.Perm.append_left i (List.Perm.append_left j (List.Perm.append_left k (List.Perm.append_left l (List.Perm.append_left m (List.Perm.append_left n (List.Perm.append_left o (List.Perm.append_left p (List.Perm.append_left q (List.Perm.append_left r (by rw [← List.append_assoc, ← List.append_assoc]; exact List.Perm.append_right _ List.perm_append_comm))))))))))))))))))))
section ex
variable {P : Program} {n : Nat} {l : List (Nat × Value)} {C : World → Prop} {dst : Option Tmp} {ty : TypeId} {pos : String} {af : Array Edge} {gd : Option (Nat × Bool)} {w0 : World} {H : View} {L : Seg}
theorem ex_quo {t t' : TypeId} {x y : Operand} {p q : Int} (hx : opv l x = some (.int .i64 p)) (hy : opv l y = some (.int .i64 q)) (h : q ≠ 0 ∧ I64 (p.tdiv q)) :
    Exv P n l C ⟨dst, .binOp .quo t x y t', ty, pos, af, gd⟩ (.int .i64 (p.tdiv q)) := ex_bin hx hy fun w => by simp [binOp, Op.intDiv, h.1, h.2.wrap]
theorem run_binS {op : BinOp} {t : TypeId} {x y : Operand} {k k' : IntKind} {p q : Int} {w : World} {r : Value} (h : (binOp op t (.int k p) (.int k' q)).run P w = .ok r w) :
    (do eqGuard op t x y (.int k p) (.int k' q); binOp op t (.int k p) (.int k' q)).run P w = .ok r w := by
  have : (eqGuard op t x y (.int k p) (.int k' q)).run P w = .ok () w := by
    unfold eqGuard
    cases op <;> rfl
  rw [Sem.run_bind, this]
  exact h
end ex
end Go.Vc
