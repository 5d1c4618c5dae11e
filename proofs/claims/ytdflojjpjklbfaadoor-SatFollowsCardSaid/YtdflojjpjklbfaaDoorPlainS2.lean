/- The plain part: what follows of clauses, clause by clause; the program's and the document's way are the same steps. No program in sight. -/
import Derived.Test.YtdflojjpjklbfaaDoorPlainS1
set_option linter.unusedVariables false
namespace Go.Vc
def sgn (l : Int) : Int := if l < 0 then -1 else 1
def av (l : Int) : Int := max l (-l)
def valOf (val : List Int) (l : Int) : Int := if l < 0 then -(ix val (av l)) else ix val (av l)
def setv (val : List Int) (l : Int) : List Int := val.set (av l).toNat (sgn l)
def Vals (n : Int) (val : List Int) : Prop := val.length = (n + 1).toNat ∧ ∀ x ∈ val, x = -1 ∨ x = 0 ∨ x = 1
theorem Vals.at {n : Int} {val : List Int} (h : Vals n val) (l : Int) : ix val l = -1 ∨ ix val l = 0 ∨ ix val l = 1 := by
  unfold ix
  rw [List.getD_eq_getElem?_getD]
  cases he : val[l.toNat]? with
  | none => right; left; rfl
  | some x => exact h.2 x (List.mem_of_getElem? he)
theorem Vals.in {n l : Int} {val : List Int} (hn : okN n) (h : Vals n val) (hl : isLit n l = true) : In (av l) val := by
  rw [isLit_iff] at hl
  unfold okN at hn
  have := h.1
  unfold In av; omega
theorem Vals.of {n : Int} {val : List Int} (h : Vals n val) (l : Int) : valOf val l = -1 ∨ valOf val l = 0 ∨ valOf val l = 1 := by
  have := h.at (av l)
  unfold valOf; split <;> omega
theorem Vals.set {n l : Int} {val : List Int} (h : Vals n val) : Vals n (setv val l) := by
  refine ⟨by rw [setv, List.length_set]; exact h.1, fun x hx => ?_⟩
  rcases List.mem_or_eq_of_mem_set hx with hx | rfl
  · exact h.2 x hx
  · unfold sgn; split <;> simp
theorem lit_abs {n l : Int} (hn : okN n) (hl : isLit n l = true) : absv l = av l := by
  rw [isLit_iff] at hl; unfold okN at hn; exact absv_eq (by omega)
theorem lit_av {n l : Int} (hn : okN n) (hl : isLit n l = true) : 1 ≤ av l ∧ av l ≤ n ∧ av l ≤ 16777216 ∧ I64 (-l) := by
  rw [isLit_iff] at hl; unfold okN at hn; unfold av I64; omega
theorem i64_small {x : Int} (h : x = -1 ∨ x = 0 ∨ x = 1) : I64 (-x) := by unfold I64; omega
theorem refSet_ok {n l : Int} {val : List Int} {Q : Bool → List Int → Prop} (hn : okN n) (hv : Vals n val) (hl : isLit n l = true) (h1 : valOf val l = -1 → Q false val) (h2 : valOf val l ≠ -1 → Q true (setv val l)) : V_refSet val l Q := by
  refine ⟨fun v => v = sgn l, ?_, fun h => by simp [sgn, h], fun h => by simp [sgn, h]⟩
  rintro v rfl
  refine size_ok ?_
  rw [lit_abs hn hl]
  refine ⟨hv.in hn hl, fun _ => ⟨by unfold sgn I64; split <;> omega, fun he => h1 ?_, fun he => ⟨hv.in hn hl, h2 ?_⟩⟩⟩
  · unfold valOf; unfold sgn at he; split at he <;> simp_all
  · unfold valOf; unfold sgn at he; split at he <;> simp_all <;> omega

/-- How many unlike literals of a clause are open (2: more than one, or one is true), and the open one. -/
def unitGo (val : List Int) : Int → List Int → Int × Int
  | o, [] => if o = 0 then (0, 0) else (o, 1)
  | o, l :: ls => if 0 < valOf val l then (0, 2) else if valOf val l = 0 ∧ o ≠ 0 ∧ l ≠ o then (0, 2) else if valOf val l = 0 then unitGo val l ls else unitGo val o ls
theorem unitGo_cases (val : List Int) : ∀ (c : List Int) (o : Int), (unitGo val o c).2 = 0 ∨ (unitGo val o c).2 = 2 ∨ ((unitGo val o c).2 = 1 ∧ (((unitGo val o c).1 = o ∧ o ≠ 0) ∨ ((unitGo val o c).1 ∈ c ∧ valOf val (unitGo val o c).1 = 0)))
  | [], o => by unfold unitGo; split <;> simp_all
  | l :: ls, o => by
    unfold unitGo
    split
    · simp
    · split
      · simp
      · split
        · rename_i h1 h2 h3
          rcases unitGo_cases val ls l with h | h | ⟨h, ⟨h4, _⟩ | ⟨h4, h5⟩⟩
          · exact .inl h
          · exact .inr (.inl h)
          · exact .inr (.inr ⟨h, .inr ⟨by rw [h4]; simp, by rw [h4]; exact h3⟩⟩)
          · exact .inr (.inr ⟨h, .inr ⟨by simp [h4], h5⟩⟩)
        · rcases unitGo_cases val ls o with h | h | ⟨h, h4 | ⟨h4, h5⟩⟩
          · exact .inl h
          · exact .inr (.inl h)
          · exact .inr (.inr ⟨h, .inl h4⟩)
          · exact .inr (.inr ⟨h, .inr ⟨by simp [h4], h5⟩⟩)
theorem unit_one {val c : List Int} (h : (unitGo val 0 c).2 = 1) : (unitGo val 0 c).1 ∈ c ∧ valOf val (unitGo val 0 c).1 = 0 := by
  rcases unitGo_cases val c 0 with h' | h' | ⟨_, ⟨_, h'⟩ | h'⟩
  · omega
  · omega
  · exact absurd rfl h'
  · exact h'
theorem lits_ix {n : Int} {c : List Int} {i : Int} (hc : litsOk n c = true) (h0 : 0 ≤ i) (h1 : i < c.length) : isLit n (ix c i) = true := List.all_eq_true.1 hc _ (ix_mem h0 h1)
theorem refUnit_ok {n : Int} {val c : List Int} {Q : Int → Int → Prop} (hn : okN n) (hv : Vals n val) (hc : litsOk n c = true) (h : Q (unitGo val 0 c).1 (unitGo val 0 c).2) : V_refUnit val c Q := by
  refine ⟨fun s => 0 ≤ s.2 ∧ s.2 ≤ c.length ∧ unitGo val 0 c = unitGo val s.1 (c.drop s.2.toNat), fun s => (c.length - s.2).toNat, ⟨by simp, by simp, by simp⟩, ?_⟩
  rintro ⟨o, i⟩ ⟨g0, g1, g2⟩ hl
  simp only at g0 g1 g2
  refine ⟨fun hlt => ?_, fun hge => ?_⟩
  · have hlit := lits_ix hc g0 hlt
    rw [drop_ix g0 hlt] at g2
    generalize hcl : ix c i = x at *
    refine ⟨fun o' => unitGo val 0 c = unitGo val o' (c.drop (i + 1).toNat), fun o' ho => ⟨i64_succ hl g0 hlt, ⟨by dsimp only; omega, by dsimp only; omega, ho⟩, by dsimp only; omega⟩, ⟨g0, hlt⟩, fun _ => ?_⟩
    refine size_ok ?_
    rw [lit_abs hn hlit]
    refine ⟨hv.in hn hlit, fun _ => ⟨fun v => v = valOf val x, ?_, ⟨g0, hlt⟩, fun _ => ⟨fun hx => ⟨i64_small (hv.at _), by simp [valOf, hx]⟩, fun hx => by simp [valOf, hx]⟩⟩⟩
    rintro v rfl
    rw [unitGo] at g2
    refine ⟨fun hp => ?_, fun hp => ?_⟩
    · rw [if_pos hp] at g2; rw [g2] at h; exact h
    · rw [if_neg hp] at g2
      refine ⟨fun b => b = decide (valOf val x = 0 ∧ o ≠ 0 ∧ x ≠ o), ?_, fun hz => ⟨fun ho => ⟨⟨g0, hlt⟩, fun _ => by simp [hz, ho]⟩, fun ho => ?_⟩, fun hz => ?_⟩
      · rintro b rfl
        refine ⟨fun hb => ?_, fun hb => ?_⟩
        · rw [if_pos (of_decide_eq_true hb)] at g2; rw [g2] at h; exact h
        · rw [if_neg (of_decide_eq_false hb)] at g2
          refine ⟨fun hz => ⟨⟨g0, hlt⟩, fun _ => ?_⟩, fun hz => ?_⟩
          · rw [if_pos hz] at g2; exact g2
          · rw [if_neg hz] at g2; exact g2
      · simp only [ne_eq, Decidable.not_not] at ho; simp [ho]
      · simp [hz]
  · rw [drop_end g0 hge, unitGo] at g2
    refine ⟨fun ho => ?_, fun ho => ?_⟩
    · rw [if_pos ho] at g2; rw [g2] at h; exact h
    · rw [if_neg ho] at g2; rw [g2] at h; exact h

/-- Once through the clauses. -/
def passF : List (List Int) → List Int → Bool → Option (List Int × Bool)
  | [], val, more => some (val, more)
  | c :: cs, val, more => if (unitGo val 0 c).2 = 0 then none else if (unitGo val 0 c).2 = 1 then passF cs (setv val (unitGo val 0 c).1) true else passF cs val more
def zeros (val : List Int) : Nat := val.count 0
theorem count_set_zero : ∀ (val : List Int) (k : Nat) (v : Int), val[k]? = some 0 → v ≠ 0 → (val.set k v).count 0 + 1 = val.count 0
  | [], k, v, h, _ => by simp at h
  | x :: xs, 0, v, h, hv => by simp at h; subst h; simp [hv]
  | x :: xs, k + 1, v, h, hv => by
    simp only [List.getElem?_cons_succ] at h
    have := count_set_zero xs k v h hv
    simp only [List.set_cons_succ, List.count_cons]
    omega
theorem zeros_set {n l : Int} {val : List Int} (hn : okN n) (hv : Vals n val) (hl : isLit n l = true) (h0 : valOf val l = 0) : zeros (setv val l) < zeros val := by
  have hin := hv.in hn hl
  have hz : ix val (av l) = 0 := by unfold valOf at h0; split at h0 <;> omega
  have := count_set_zero val (av l).toNat (sgn l) (by rw [ix_get hin.1 hin.2, hz]) (by unfold sgn; split <;> omega)
  unfold zeros setv; omega
theorem mem_lits {n l : Int} {c : List Int} (hc : litsOk n c = true) (h : l ∈ c) : isLit n l = true := List.all_eq_true.1 hc l h
theorem pass_ok {n : Int} (hn : okN n) : ∀ {cs : List (List Int)} {val v' : List Int} {more m' : Bool}, Vals n val → cs.all (litsOk n) = true → passF cs val more = some (v', m') →
    Vals n v' ∧ zeros v' ≤ zeros val ∧ (m' = true → more = true ∨ zeros v' < zeros val)
  | [], val, v', more, m', hv, _, h => by simp [passF] at h; obtain ⟨rfl, rfl⟩ := h; exact ⟨hv, Nat.le_refl _, fun h => .inl h⟩
  | c :: cs, val, v', more, m', hv, hc, h => by
    rw [List.all_cons, Bool.and_eq_true] at hc
    unfold passF at h
    split at h
    · cases h
    · split at h
      · rename_i h1
        obtain ⟨h2, h3⟩ := unit_one h1
        have hz := zeros_set hn hv (mem_lits hc.1 h2) h3
        obtain ⟨g1, g2, _⟩ := pass_ok hn hv.set hc.2 h
        exact ⟨g1, by omega, fun _ => .inr (by omega)⟩
      · exact pass_ok hn hv hc.2 h
def propag (cs : List (List Int)) : Nat → List Int → Option (List Int)
  | 0, _ => none
  | k + 1, val => match passF cs val false with
    | none => none
    | some (v, true) => propag cs k v
    | some (v, false) => some v
theorem propag_fuel {n : Int} (hn : okN n) {cs : List (List Int)} (hc : cs.all (litsOk n) = true) : ∀ (k k' : Nat) (val : List Int), Vals n val → zeros val < k → zeros val < k' → propag cs k val = propag cs k' val
  | 0, _, _, _, h, _ => by omega
  | _, 0, _, _, _, h => by omega
  | k + 1, k' + 1, val, hv, h1, h2 => by
    unfold propag
    cases hp : passF cs val false with
    | none => rfl
    | some r =>
      obtain ⟨v, m⟩ := r
      cases m with
      | false => rfl
      | true =>
        obtain ⟨g1, g2, g3⟩ := pass_ok hn hv hc hp
        rcases g3 rfl with g3 | g3
        · cases g3
        · exact propag_fuel hn hc k k' v g1 (by omega) (by omega)
def setAll : List Int → List Int → Option (List Int)
  | [], val => some val
  | l :: ls, val => if valOf val l = -1 then none else setAll ls (setv val l)
def start (n : Int) : List Int := List.replicate (n + 1).toNat 0
/-- What follows of clauses and what is given. -/
def followF (n : Int) (cs : List (List Int)) (given : List Int) : Option (List Int) := (setAll given (start n)).bind (propag cs (n.toNat + 2))
theorem start_vals (n : Int) : Vals n (start n) := ⟨by simp [start], fun x hx => by simp [start] at hx; simp [hx.2]⟩
theorem setAll_vals {n : Int} : ∀ {ls val v : List Int}, Vals n val → setAll ls val = some v → Vals n v
  | [], _, _, hv, h => by cases h; exact hv
  | l :: ls, val, v, hv, h => by
    unfold setAll at h
    split at h
    · cases h
    · exact setAll_vals hv.set h
theorem zeros_le {n : Int} {val : List Int} (hn : okN n) (h : Vals n val) : zeros val < n.toNat + 2 := by
  have := List.count_le_length (a := (0 : Int)) (l := val)
  have := h.1
  unfold zeros; unfold okN at hn; omega
/-- What is handed back. -/
def answer {β : Type} (f : List Int → β) (z : β) (Q : β → Bool → Prop) : Option (List Int) → Prop
  | none => Q z false
  | some v => Q (f v) true
theorem refFollow_ok {n : Int} {cs : List (List Int)} {given : List Int} {Q : List Int → Bool → Prop} (hn : okN n) (hc : cs.all (litsOk n) = true) (hg : litsOk n given = true) (h : answer id [] Q (followF n cs given)) : V_refFollow n cs given Q := by
  have hn' := hn
  unfold okN at hn'
  refine ⟨by unfold I64; omega, ⟨by omega, by omega, by omega⟩, ?_⟩
  refine ⟨fun s => 0 ≤ s.2 ∧ s.2 ≤ given.length ∧ Vals n s.1 ∧ setAll given (start n) = setAll (given.drop s.2.toNat) s.1, fun s => (given.length - s.2).toNat, ⟨by simp, by simp, start_vals n, by simp [start]⟩, ?_⟩
  rintro ⟨val, i⟩ ⟨g0, g1, hv, g2⟩ hl
  simp only at g0 g1 g2 hv
  refine ⟨fun hlt => ⟨⟨g0, hlt⟩, fun _ => ?_⟩, fun hge => ?_⟩
  · have hlit := lits_ix hg g0 hlt
    rw [drop_ix g0 hlt, setAll] at g2
    refine refSet_ok hn hv hlit (fun he => ?_) (fun he => ?_)
    · rw [if_pos he] at g2
      refine ⟨fun _ => ?_, fun h => by cases h⟩
      rw [followF, g2] at h; exact h
    · rw [if_neg he] at g2
      exact ⟨fun h => by (cases h), fun _ => ⟨i64_succ hl g0 hlt, ⟨by dsimp only; omega, by dsimp only; omega, hv.set, g2⟩, by dsimp only; omega⟩⟩
  · rw [drop_end g0 hge, setAll] at g2
    rw [followF, g2, Option.bind_some, propag_fuel hn hc _ (zeros val + 1) val hv (zeros_le hn hv) (by omega)] at h
    refine ⟨fun v => Vals n v ∧ answer id [] Q (propag cs (zeros v + 1) v), zeros, ⟨hv, h⟩, ?_⟩
    clear g2 h hv
    rintro val ⟨hv, h⟩
    refine ⟨fun s => 0 ≤ s.2.2 ∧ s.2.2 ≤ cs.length ∧ Vals n s.1 ∧ passF cs val false = passF (cs.drop s.2.2.toNat) s.1 s.2.1 ∧ zeros s.1 ≤ zeros val ∧ (s.2.1 = true → zeros s.1 < zeros val), fun s => (cs.length - s.2.2).toNat,
      ⟨by simp, by simp, hv, by simp, Nat.le_refl _, fun h => by cases h⟩, ?_⟩
    rintro ⟨v, more, k⟩ ⟨k0, k1, kv, kp, kz, km⟩ hl
    simp only at k0 k1 kv kp kz km
    refine ⟨fun hlt => ?_, fun hge => ?_⟩
    · have hcl : litsOk n (ix cs k) = true := List.all_eq_true.1 hc _ (ix_mem k0 hlt)
      rw [drop_ix k0 hlt, passF] at kp
      refine ⟨fun s => Vals n s.1 ∧ passF cs val false = passF (cs.drop (k + 1).toNat) s.1 s.2 ∧ zeros s.1 ≤ zeros val ∧ (s.2 = true → zeros s.1 < zeros val), ?_, ⟨k0, hlt⟩, ?_⟩
      · rintro ⟨v', m'⟩ ⟨j1, j2, j3, j4⟩
        exact ⟨i64_succ hl k0 hlt, ⟨by dsimp only; omega, by dsimp only; omega, j1, j2, j3, j4⟩, by dsimp only; omega⟩
      · refine refUnit_ok hn kv hcl ⟨fun h0 => ?_, fun h0 => ⟨fun h1 => ?_, fun h1 => ?_⟩⟩
        · rw [if_pos h0] at kp
          rw [propag, kp] at h; exact h
        · rw [if_neg h0, if_pos h1] at kp
          obtain ⟨h2, h3⟩ := unit_one h1
          have hlit := mem_lits hcl h2
          refine refSet_ok hn kv hlit (fun he => by omega) (fun he => ?_)
          have := zeros_set hn kv hlit h3
          exact ⟨kv.set, kp, by dsimp only; omega, fun _ => by dsimp only; omega⟩
        · rw [if_neg h0, if_neg h1] at kp
          exact ⟨kv, kp, kz, km⟩
    · rw [drop_end k0 hge, passF] at kp
      rw [propag, kp] at h
      refine ⟨fun hm => ?_, fun hm => ?_⟩
      · simp only [Bool.not_eq_true'] at hm
        subst hm; exact h
      · simp only [Bool.not_eq_false'] at hm
        subst hm
        simp only at h
        rw [propag_fuel hn hc _ (zeros v + 1) v kv (km rfl) (by omega)] at h
        exact ⟨⟨kv, h⟩, km rfl⟩

theorem followSet_ok {n l : Int} {val : List Int} {Q : Bool → List Int → Prop} (hn : okN n) (hv : Vals n val) (hl : isLit n l = true) (h : Q (decide (valOf val l ≠ -1)) (setv val l)) : V_followSet l val Q := by
  obtain ⟨_, _, _, h4⟩ := lit_av hn hl
  refine ⟨h4, fun v => v = sgn l, ?_, fun h => by simp [sgn, h], fun h => by simp [sgn, h]⟩
  rintro v rfl
  refine ⟨hv.in hn hl, fun _ => ⟨hv.in hn hl, by unfold sgn I64; split <;> omega, ?_⟩⟩
  have e : decide (ix val (max l (-l)) ≠ -(sgn l)) = decide (valOf val l ≠ -1) := by
    congr 1
    show (ix val (av l) ≠ -(sgn l)) = _
    unfold valOf sgn
    split <;> (refine propext ⟨fun h => ?_, fun h => ?_⟩ <;> omega)
  rw [e]; exact h
theorem followOf_ok {n l : Int} {val : List Int} {Q : Int → Prop} (hn : okN n) (hv : Vals n val) (hl : isLit n l = true) (h : Q (valOf val l)) : V_followOf l val Q := by
  obtain ⟨h1, h2, _, h4⟩ := lit_av hn hl
  have hin := hv.in hn hl
  refine ⟨fun hneg => ?_, fun hneg => ?_⟩
  · have e : av l = -l := by unfold av; omega
    rw [valOf, if_pos hneg, e] at h
    rw [e] at hin
    exact ⟨h4, hin, fun _ => ⟨i64_small (hv.at _), h⟩⟩
  · have e : av l = l := by unfold av; omega
    rw [valOf, if_neg hneg, e] at h
    rw [e] at hin
    exact ⟨hin, fun _ => h⟩
/-- All that is true, by its variables, up to one. -/
def trueTo (val : List Int) (k : Nat) : List Int := ((List.range' 1 k).filter fun v : Nat => decide (ix val (v : Int) ≠ 0)).map fun v : Nat => (v : Int) * ix val (v : Int)
theorem trueTo_succ (val : List Int) (k : Nat) : trueTo val (k + 1) = trueTo val k ++ (if ix val ((k : Int) + 1) ≠ 0 then [((k : Int) + 1) * ix val ((k : Int) + 1)] else []) := by
  have e : ((k + 1 : Nat) : Int) = (k : Int) + 1 := by omega
  unfold trueTo
  rw [List.range'_concat, List.filter_append, List.map_append]
  congr 1
  rw [show 1 + 1 * k = k + 1 by omega]
  by_cases h : ix val ((k : Int) + 1) ≠ 0
  · rw [if_pos h]; simp [e, h]
  · rw [if_neg h]; simp only [ne_eq, Decidable.not_not] at h; simp [e, h]
theorem trueTo_length (val : List Int) (k : Nat) : (trueTo val k).length ≤ k := by
  unfold trueTo
  rw [List.length_map]
  exact Nat.le_trans (List.length_filter_le _ _) (by simp)
theorem follow_ok {n : Int} {cs : List (List Int)} {given : List Int} {Q : List Int → Bool → Prop} (hn : okN n) (hc : cs.all (litsOk n) = true) (hg : litsOk n given = true) (h : answer (fun v => trueTo v n.toNat) [] Q (followF n cs given)) : V_follow n cs given Q := by
  have hn' := hn
  unfold okN at hn'
  refine ⟨by unfold I64; omega, ⟨by omega, by omega, by omega⟩, fun hl => ?_⟩
  refine ⟨fun s => 0 ≤ s.2 ∧ s.2 ≤ given.length ∧ Vals n s.1 ∧ setAll given (start n) = setAll (given.drop s.2.toNat) s.1, fun s => (given.length - s.2).toNat, ⟨by simp, by simp, start_vals n, by simp [start]⟩, ?_⟩
  rintro ⟨val, i⟩ ⟨g0, g1, hv, g2⟩
  simp only at g0 g1 g2 hv
  refine ⟨fun hlt => ⟨⟨g0, hlt⟩, fun _ => ?_⟩, fun hge => ?_⟩
  · have hlit := lits_ix hg g0 hlt
    rw [drop_ix g0 hlt, setAll] at g2
    refine followSet_ok hn hv hlit ⟨fun he => ?_, fun he => ?_⟩
    · have he : valOf val (ix given i) = -1 := by simpa using he
      rw [if_pos he] at g2
      rw [followF, g2] at h; exact h
    · have he : ¬ valOf val (ix given i) = -1 := by simpa using he
      rw [if_neg he] at g2
      exact ⟨i64_succ hl g0 hlt, ⟨by dsimp only; omega, by dsimp only; omega, hv.set, g2⟩, by dsimp only; omega⟩
  · rw [drop_end g0 hge, setAll] at g2
    rw [followF, g2, Option.bind_some, propag_fuel hn hc _ (zeros val + 1) val hv (zeros_le hn hv) (by omega)] at h
    refine ⟨fun s => Vals n s.1 ∧ (s.2 = true → answer (fun v => trueTo v n.toNat) [] Q (propag cs (zeros s.1 + 1) s.1)) ∧ (s.2 = false → Q (trueTo s.1 n.toNat) true), fun s => 2 * zeros s.1 + (if s.2 = true then 1 else 0), ⟨hv, fun _ => h, fun h => by cases h⟩, ?_⟩
    clear g2 h hv
    rintro ⟨val, again⟩ ⟨hv, h, h'⟩
    simp only at hv h h'
    refine ⟨fun ha hl => ?_, fun ha => ?_⟩
    · subst ha
      replace h := h rfl
      clear h'
      refine ⟨fun s => 0 ≤ s.2.2 ∧ s.2.2 ≤ cs.length ∧ Vals n s.1 ∧ passF cs val false = passF (cs.drop s.2.2.toNat) s.1 s.2.1 ∧ zeros s.1 ≤ zeros val ∧ (s.2.1 = true → zeros s.1 < zeros val), fun s => (cs.length - s.2.2).toNat,
        ⟨by simp, by simp, hv, by simp, Nat.le_refl _, fun h => by cases h⟩, ?_⟩
      rintro ⟨v, more, k⟩ ⟨k0, k1, kv, kp, kz, km⟩
      simp only at k0 k1 kv kp kz km
      refine ⟨fun hlt => ?_, fun hge => ?_⟩
      · have hcl : litsOk n (ix cs k) = true := List.all_eq_true.1 hc _ (ix_mem k0 hlt)
        rw [drop_ix k0 hlt, passF] at kp
        generalize hcc : ix cs k = c at *
        refine ⟨fun s => Vals n s.1 ∧ passF cs val false = passF (cs.drop (k + 1).toNat) s.1 s.2 ∧ zeros s.1 ≤ zeros val ∧ (s.2 = true → zeros s.1 < zeros val), ?_, ⟨k0, hlt⟩, fun hl2 => ?_⟩
        · rintro ⟨v', m'⟩ ⟨j1, j2, j3, j4⟩
          exact ⟨i64_succ hl k0 hlt, ⟨by dsimp only; omega, by dsimp only; omega, j1, j2, j3, j4⟩, by dsimp only; omega⟩
        · refine ⟨fun s => 0 ≤ s.2 ∧ s.2 ≤ c.length ∧ unitGo v 0 c = unitGo v s.1 (c.drop s.2.toNat), fun s => (c.length - s.2).toNat, ⟨by simp, by simp, by simp⟩, ?_⟩
          rintro ⟨o, j⟩ ⟨j0, j1, j2⟩
          simp only at j0 j1 j2
          refine ⟨fun hlt2 => ?_, fun hge2 => ?_⟩
          · have hlit := lits_ix hcl j0 hlt2
            rw [drop_ix j0 hlt2, unitGo] at j2
            generalize hx : ix c j = x at *
            refine ⟨fun o' => unitGo v 0 c = unitGo v o' (c.drop (j + 1).toNat), fun o' ho => ⟨i64_succ hl2 j0 hlt2, ⟨by dsimp only; omega, by dsimp only; omega, ho⟩, by dsimp only; omega⟩, ⟨j0, hlt2⟩, fun _ => ?_⟩
            refine ⟨fun b => b = decide (0 < valOf v x ∨ (valOf v x = 0 ∧ o ≠ 0 ∧ x ≠ o)), ?_, followOf_ok hn kv hlit ⟨fun hp => by simp [hp], fun hp => followOf_ok hn kv hlit ⟨fun hz => ⟨fun ho => ?_, fun ho => ?_⟩, fun hz => ?_⟩⟩⟩
            · rintro b rfl
              refine ⟨fun hb => ?_, fun hb => ?_⟩
              · have hb := of_decide_eq_true hb
                have : unitGo v 0 c = (0, 2) := by
                  rw [j2]
                  rcases hb with hb | hb
                  · rw [if_pos hb]
                  · rw [if_neg (by omega), if_pos hb]
                rw [this, if_neg (by decide), if_neg (by decide)] at kp
                exact ⟨kv, kp, kz, km⟩
              · have hb := of_decide_eq_false hb
                rw [if_neg (fun h => hb (.inl h)), if_neg (fun h => hb (.inr h))] at j2
                refine followOf_ok hn kv hlit ⟨fun hz => ?_, fun hz => ?_⟩
                · rw [if_pos hz] at j2; exact j2
                · rw [if_neg hz] at j2; exact j2
            · have e : decide (o ≠ x) = decide (0 < valOf v x ∨ (valOf v x = 0 ∧ o ≠ 0 ∧ x ≠ o)) := by
                congr 1; refine propext ⟨fun h => ?_, fun h => ?_⟩ <;> omega
              exact e
            · simp only [ne_eq, Decidable.not_not] at ho; simp [ho, hz]
            · simp [hp, hz]
          · rw [drop_end j0 hge2, unitGo] at j2
            refine ⟨fun ho => ?_, fun ho => ?_⟩
            · rw [if_pos ho] at j2
              rw [j2, if_pos rfl] at kp
              rw [propag, kp] at h; exact h
            · rw [if_neg ho] at j2
              have h1 : (unitGo v 0 c).2 = 1 := by rw [j2]
              obtain ⟨h2, h3⟩ := unit_one h1
              have hlit := mem_lits hcl h2
              rw [j2] at hlit h3 kp
              simp only at hlit h3
              rw [if_neg (by simp), if_pos rfl] at kp
              have := zeros_set hn kv hlit h3
              exact followSet_ok hn kv hlit ⟨kv.set, kp, by dsimp only; omega, fun _ => by dsimp only; omega⟩
      · rw [drop_end k0 hge, passF] at kp
        rw [propag, kp] at h
        cases more with
        | false => exact ⟨⟨kv, fun h => by (cases h), fun _ => h⟩, by simp; omega⟩
        | true =>
          simp only at h
          have hz := km rfl
          rw [propag_fuel hn hc _ (zeros v + 1) v kv hz (by omega)] at h
          exact ⟨⟨kv, fun _ => h, fun h => by cases h⟩, by simp; omega⟩
    · subst ha
      replace h := h' rfl
      clear h'
      refine ⟨fun s => 1 ≤ s.2 ∧ s.2 ≤ n + 1 ∧ s.1 = trueTo val (s.2 - 1).toNat, fun s => (n + 1 - s.2).toNat, ⟨by simp, by dsimp only; omega, rfl⟩, ?_⟩
      rintro ⟨out, k⟩ ⟨k0, k1, k2⟩
      simp only at k0 k1 k2
      refine ⟨fun hle => ?_, fun hgt => ?_⟩
      · have hvl := hv.1
        have hin : In k val := ⟨by omega, by omega⟩
        have hs := trueTo_succ val (k - 1).toNat
        have e1 : (k - 1).toNat + 1 = (k + 1 - 1).toNat := by omega
        have e2 : (((k - 1).toNat : Nat) : Int) + 1 = k := by omega
        rw [e1, e2, ← k2] at hs
        have hol : out.length ≤ (k - 1).toNat := by rw [k2]; exact trueTo_length _ _
        refine ⟨fun o => o = trueTo val (k + 1 - 1).toNat, ?_, hin, fun _ => ⟨fun hz => ⟨hin, fun _ => ⟨?_, ⟨?_, ?_⟩, ?_⟩⟩, fun hz => ?_⟩⟩
        · rintro o rfl
          exact ⟨by unfold I64; omega, ⟨by dsimp only; omega, by dsimp only; omega, rfl⟩, by dsimp only; omega⟩
        · rcases hv.at k with h | h | h <;> rw [h] <;> unfold I64 <;> omega
        · simp; omega
        · simp [maxLen]; omega
        · rw [if_pos hz] at hs; exact hs.symm
        · rw [if_neg hz, List.append_nil] at hs; exact hs.symm
      · have : k = n + 1 := by omega
        subst this
        rw [show (n + 1 - 1).toNat = n.toNat by omega] at k2
        rw [k2]; exact h
end Go.Vc
