/- The document's reader, part 1: what has no parts. No program in sight. -/
import Derived.Test.YtlhkfkecoekoeaaGreatDoorPlainR2
set_option linter.unusedVariables false
set_option linter.unusedSimpArgs false
namespace Go.Vc
section
variable {text r : Str} {a : Int}
theorem skipS_skipS (r : Str) : skipS (skipS r) = skipS r := by
  unfold skipS
  induction r with
  | nil => rfl
  | cons c r ih =>
    by_cases h : spaceB c = true
    · simp [h, ih]
    · simp [h]
theorem rskip_ok {deep e bad : Int} {heavy : Bool} {Q : Int → Prop} (ht : text.length ≤ 1000000) (h : AtT text a r) (hQ : ∀ a', AtT text a' (skipS r) → Q a') : V_rskip text a deep e bad heavy Q := by
  refine ⟨fun c => ∃ s, AtT text c s ∧ skipS s = skipS r, fun c => (text.length - c).toNat, ⟨r, h, rfl⟩, ?_⟩
  show ∀ c : Int, _ → _
  rintro c ⟨s, hs, e⟩
  refine VMeet_go ⟨by unfold Len; omega, fun hc => ?_, fun hc => ⟨fun hn => by simp at hn, fun _ => ?_⟩⟩
  · cases s with
    | nil => have := hs.len; simp at this; omega
    | cons x s =>
      obtain ⟨e1, e2, h2⟩ := hs.cons
      have eb : byte text c = ((x.toNat : Nat) : Int) := by unfold byte; rw [e1]
      have ic : In c text := ⟨hs.pos, hc⟩
      have yes : spaceB x = true → I64 (c + 1) ∧ ((∃ s, AtT text (c + 1) s ∧ skipS s = skipS r) ∧ ((text.length : Int) - (c + 1)).toNat < ((text.length : Int) - c).toNat) := fun hx =>
        ⟨by unfold I64; have := hs.pos; omega, ⟨s, h2, by rw [← e]; simp [skipS, hx]⟩, by have := hs.pos; omega⟩
      have no : ¬ spaceB x = true → Q c := fun hx => hQ c (by rw [← e]; simpa [skipS, hx] using hs)
      have k : ∀ n : UInt8, ((x.toNat : Nat) : Int) = ((n.toNat : Nat) : Int) ↔ x = n := fun n => ⟨fun h => UInt8.toNat_inj.1 (by omega), fun h => by rw [h]⟩
      have k1 := k 32; have k2 := k 9; have k3 := k 10
      simp only [UInt8.toNat_ofNat] at k1 k2 k3
      rw [eb]
      refine ⟨ic, fun h1 => ⟨fun _ => yes (by simp [spaceB, k1.1 h1]), fun hn => by simp at hn⟩, fun h1 => ⟨ic, fun h2 => ⟨fun _ => yes (by simp [spaceB, k2.1 h2]), fun hn => by simp at hn⟩, fun h2 => ⟨ic, fun h3 => yes (by simp [spaceB, k3.1 (of_decide_eq_true h3)]), fun h3 => no ?_⟩⟩⟩
      have h3 := of_decide_eq_false h3
      have n1 : x ≠ 32 := fun h => h1 (k1.2 h)
      have n2 : x ≠ 9 := fun h => h2 (k2.2 h)
      have n3 : x ≠ 10 := fun h => h3 (k3.2 h)
      simp [spaceB, n1, n2, n3]
  · cases s with
    | nil => exact hQ c (by rw [← e]; exact hs)
    | cons x s => have := hs.cons; omega
theorem rsign_ok {deep bad : Int} {heavy : Bool} {sign : Str} {Q : Bool → Int → Prop} (ht : text.length ≤ 1000000) (hg : sign.length ≤ 1000) (h : AtT text a r) (hQ : ∀ b r' a', takeS sign r = (b, r') → AtT text a' r' → Q b a') : V_rsign text a deep 0 bad heavy sign Q := by
  refine rskip_ok ht h fun a' h' => VMeet_go ⟨fun hn => absurd rfl hn, fun _ => ?_⟩
  have hl := h'.len; have hp := h'.pos; have hle := h'.le
  have miss : ¬ (skipS r).take sign.length = sign → Q false a' := fun hn => hQ false _ _ (by unfold takeS; rw [if_neg hn]) h'
  refine ⟨by unfold Len; omega, by unfold I64; omega, by unfold Len; omega, fun hlt => ⟨fun _ => miss ?_, fun hn => by simp at hn⟩, fun hlt => ⟨by unfold Len; omega, by unfold I64; omega, ⟨hp, by omega, by omega⟩, fun hd => miss ?_, fun hd => ?_⟩⟩
  · intro e; have := congrArg List.length e; simp at this; omega
  · have hd := of_decide_eq_true hd
    intro e
    have e2 : skipS r = sign ++ (skipS r).drop sign.length := by conv => lhs; rw [← List.take_append_drop sign.length (skipS r), e]
    rw [e2] at h'
    exact hd h'.mid
  · have hd := of_decide_eq_false hd
    have hd : (text.take (a' + (sign.length : Int)).toNat).drop a'.toNat = sign := by simpa using hd
    have hlen2 : sign.length ≤ (skipS r).length := by omega
    have e : (skipS r).take sign.length = sign := by
      have h2 := h'
      rw [← List.take_append_drop sign.length (skipS r)] at h2
      have hm := h2.mid
      have el : ((skipS r).take sign.length).length = sign.length := by simp; omega
      rw [el] at hm
      rw [← hm]; exact hd
    have e2 : skipS r = sign ++ (skipS r).drop sign.length := by conv => lhs; rw [← List.take_append_drop sign.length (skipS r), e]
    have h2 := h'
    rw [e2] at h2
    exact ⟨by unfold Len; omega, by unfold I64; omega, hQ true _ _ (by unfold takeS; rw [if_pos e]) h2.app⟩
theorem rsign_bad {deep e bad : Int} {heavy : Bool} {sign : Str} {Q : Bool → Int → Prop} (he : e ≠ 0) (ht : text.length ≤ 1000000) (h : AtT text a r) (hQ : ∀ a' s, AtT text a' s → Q false a') : V_rsign text a deep e bad heavy sign Q :=
  rskip_ok ht h fun a' h' => VMeet_go ⟨fun _ => ⟨fun _ => hQ a' _ h', fun hn => by simp at hn⟩, fun hn => absurd he hn⟩
theorem rwant_ok {deep bad : Int} {heavy : Bool} {sign : Str} {Q : Int → Int → Int → Prop} (ht : text.length ≤ 1000000) (hg : sign.length ≤ 1000) (h : AtT text a r)
    (hQ : ∀ r' a', takeS sign r = (true, r') → AtT text a' r' → Q a' 0 bad) (hE : ∀ r' a', takeS sign r = (false, r') → AtT text a' r' → Q a' 1 a') : V_rwant text a deep 0 bad heavy sign Q := by
  refine rsign_ok ht hg h fun b r' a' e h' => ⟨fun hb => ?_, fun hb => ?_⟩
  · have : b = false := by simpa using hb
    subst this; exact ⟨fun _ => hE r' a' e h', fun hn => absurd rfl hn⟩
  · have : b = true := by simpa using hb
    subst this; exact hQ r' a' e h'
theorem rwant_bad {deep e bad : Int} {heavy : Bool} {sign : Str} {Q : Int → Int → Int → Prop} (he : e ≠ 0) (ht : text.length ≤ 1000000) (h : AtT text a r) (hQ : ∀ a' s, AtT text a' s → Q a' e bad) : V_rwant text a deep e bad heavy sign Q :=
  rsign_bad he ht h fun a' s h' => ⟨fun _ => ⟨fun hn => absurd hn he, fun _ => hQ a' s h'⟩, fun hn => by simp at hn⟩
theorem rlight_ok {deep e bad : Int} {heavy : Bool} {v : RV} {Q : RV → Bool → Prop} (h : Q v (heavy || decide (v.k = 0))) : V_rlight text a deep e bad heavy v Q := by
  refine VMeet_go ⟨fun h0 => ?_, fun h0 => ?_⟩
  · simpa [h0] using h
  · simpa [h0] using h
theorem rInner_ok {c : UInt8} {Q : Bool → Prop} (h : Q (wordB c)) : V_rInner ((c.toNat : Nat) : Int) Q := by
  show Q (decide _)
  have e : decide (((decide ((((97 : Int) ≤ ((c.toNat : Nat) : Int)) ∧ (((c.toNat : Nat) : Int) ≤ (122 : Int))) ∨ (((65 : Int) ≤ ((c.toNat : Nat) : Int)) ∧ (((c.toNat : Nat) : Int) ≤ (90 : Int)))) = true) ∨ (decide (((48 : Int) ≤ ((c.toNat : Nat) : Int)) ∧ (((c.toNat : Nat) : Int) ≤ (57 : Int))) = true)) ∨ (((c.toNat : Nat) : Int) = (95 : Int))) = wordB c := by
    rw [Bool.eq_iff_iff, decide_eq_true_eq, decide_eq_true_eq, decide_eq_true_eq, ← wordB_i]
  rw [e]; exact h
theorem rRun_ok {Q : Int → Prop} (ht : text.length ≤ 1000000) (h : AtT text a r) (hQ : ∀ a', AtT text a' (r.dropWhile wordB) → a' = a + (r.takeWhile wordB).length → Q a') : V_rRun text a Q := by
  refine VMeet_go ⟨fun k => ∃ p s, r = p ++ s ∧ k = a + p.length ∧ r.takeWhile wordB = p ++ s.takeWhile wordB ∧ r.dropWhile wordB = s.dropWhile wordB, fun k => (text.length - k).toNat, ⟨[], r, by simp, by simp, by simp, rfl⟩, ?_⟩
  show ∀ c : Int, _ → _
  rintro k ⟨p, s, e, e2, e3, e4⟩
  have hs : AtT text k s := by rw [e2]; subst e; exact h.app
  have h1 := hs.pos; have h2 := hs.le
  have fin : s.takeWhile wordB = [] → s.dropWhile wordB = s → Q k := fun hn hd => by
    refine hQ k (by rw [e4, hd]; exact hs) ?_
    rw [e3, hn]; simp [e2]
  refine ⟨by unfold Len; omega, fun hk => ?_, fun hk => ?_⟩
  · cases s with
    | nil => have := hs.len; simp at this; omega
    | cons x s =>
      obtain ⟨e5, e6, h3⟩ := hs.cons
      have eb : byte text k = ((x.toNat : Nat) : Int) := by unfold byte; rw [e5]
      rw [eb]
      refine ⟨⟨h1, hk⟩, rInner_ok ⟨fun hn => ?_, fun hn => ⟨by unfold I64; omega, ⟨p ++ [x], s, by rw [e]; simp, by simp; omega, ?_, ?_⟩, by show (_ : Int).toNat < (_ : Int).toNat; omega⟩⟩⟩
      · have hn : wordB x = false := by simpa using hn
        exact fin (by simp [hn]) (by simp [hn])
      · have hn : wordB x = true := by simpa using hn
        rw [e3]; simp [hn]
      · have hn : wordB x = true := by simpa using hn
        rw [e4]; simp [hn]
  · cases s with
    | nil => exact fin rfl rfl
    | cons x s => have := hs.cons; omega
theorem rQuoted_ok {t : Str} {Q : Int → Prop} (ht : text.length ≤ 1000000) (h : AtT text a (34 :: t)) (hs : ∀ s t' k, quoted t = some (s, t') → AtT text k t' → k = a + 1 + s.length + 1 → Q k) (hn : quoted t = none → Q (-1)) : V_rQuoted text a Q := by
  have h0 := h.pos
  obtain ⟨_, hlt, h2⟩ := h.cons
  refine ⟨by unfold I64; omega, ?_⟩
  refine ⟨fun k => ∃ s u, t = s ++ u ∧ k = a + 1 + s.length ∧ quoted t = (match quoted u with | some (x, y) => some (s ++ x, y) | none => none), fun k => (text.length - k).toNat, ⟨[], t, by simp, by simp, by cases quoted t <;> simp⟩, ?_⟩
  show ∀ c : Int, _ → _
  rintro k ⟨s, u, e1, e2, e3⟩
  have hu : AtT text k u := by rw [e2]; subst e1; exact h2.app
  have hk0 := hu.pos; have hk1 := hu.le
  have fail : quoted u = none → Q (-1) := fun h => hn (by rw [e3, h])
  refine ⟨by unfold Len; omega, fun hk => ?_, fun hk => ?_⟩
  · cases u with
    | nil => have := hu.len; simp at this; omega
    | cons x u =>
      obtain ⟨e5, e6, h3⟩ := hu.cons
      have eb : byte text k = ((x.toNat : Nat) : Int) := by unfold byte; rw [e5]
      have ik : In k text := ⟨hk0, hk⟩
      have tb : textB x = true ↔ (32 : Int) ≤ ((x.toNat : Nat) : Int) ∧ ((x.toNat : Nat) : Int) ≤ 126 ∧ ((x.toNat : Nat) : Int) ≠ 92 := by
        have e : x = 92 ↔ x.toNat = 92 := ⟨fun h => by rw [h]; rfl, fun h => UInt8.toNat_inj.1 h⟩
        simp only [textB, Bool.and_eq_true, decide_eq_true_eq, UInt8.le_iff_toNat_le, UInt8.toNat_ofNat, bne_iff_ne, ne_eq, e]
        omega
      have c34 : x = 34 ↔ ((x.toNat : Nat) : Int) = 34 := ⟨fun h => by rw [h]; rfl, fun h => UInt8.toNat_inj.1 (by show x.toNat = 34; omega)⟩
      have no : ¬ textB x = true → Q (-1) := fun hn => fail (by simp [quoted, hn])
      rw [eb]
      refine ⟨ik, fun h34 => ⟨by unfold I64; omega, ?_⟩, fun h34 => VMeet_go ⟨ik, fun h1 => ⟨fun _ => no fun hn => by have := tb.1 hn; omega, fun hn => by simp at hn⟩, fun h1 => ⟨ik, fun h2 => ⟨fun _ => no fun hn => by have := tb.1 hn; omega, fun hn => by simp at hn⟩, fun h2 => ⟨ik, fun h3 => no fun hn => by have := tb.1 hn; have := of_decide_eq_true h3; omega, fun h3 => ?_⟩⟩⟩⟩
      · have hx := c34.2 h34
        have ht2 := tb.2 ⟨by omega, by omega, by omega⟩
        refine hs s u _ ?_ h3 (by omega)
        rw [e3]; simp only [quoted]; rw [if_pos ht2, if_pos hx]; simp
      · have hx : ¬ x = 34 := fun hn => h34 (c34.1 hn)
        have ht2 := tb.2 ⟨by omega, by omega, of_decide_eq_false h3⟩
        refine ⟨by unfold I64; omega, ⟨s ++ [x], u, by rw [e1]; simp, by simp; omega, ?_⟩, by show (_ : Int).toNat < (_ : Int).toNat; omega⟩
        rw [e3]; simp only [quoted]; rw [if_pos ht2, if_neg hx]
        cases quoted u <;> simp
  · cases u with
    | nil => exact fail rfl
    | cons x u => have := hu.cons; omega
theorem reserved_gen {W : List Str} {s : Str} {Q : Bool → Prop} (hW : W.length ≤ 1000) (h : Q (decide (s ∈ W))) :
    VLoop (σ := Int) (0 : Int) fun i_17 xnext_32 => (Len W → (i_17 < (W.length : Int) → In i_17 W ∧ ((ix W i_17) = s → Q true) ∧ (¬ ((ix W i_17) = s) → I64 (i_17 + (1 : Int)) ∧ xnext_32 (i_17 + (1 : Int)))) ∧ (¬ (i_17 < (W.length : Int)) → Q false)) := by
  refine ⟨fun i => 0 ≤ i ∧ i ≤ W.length ∧ ∀ x ∈ W.take i.toNat, x ≠ s, fun i => (W.length - i).toNat, ⟨by simp, by simp, by simp⟩, ?_⟩
  show ∀ i : Int, _ → _
  rintro i ⟨i0, i1, hx⟩ _
  refine ⟨fun hi => ⟨⟨i0, hi⟩, fun e => ?_, fun e => ⟨by unfold I64; omega, ⟨by omega, by omega, fun x hm => ?_⟩, by show (_ : Int).toNat < (_ : Int).toNat; omega⟩⟩, fun hi => ?_⟩
  · have : s ∈ W := by rw [← e]; exact ix_mem i0 hi
    simpa [this] using h
  · rw [take_ix i0 hi] at hm
    rcases List.mem_append.1 hm with hm | hm
    · exact hx x hm
    · rw [List.mem_singleton.1 hm]; exact e
  · have : i = W.length := by omega
    subst this
    simp only [Int.toNat_natCast, List.take_length] at hx
    have : ¬ s ∈ W := fun hm => hx s hm rfl
    simpa [this] using h
theorem words_few : words.length ≤ 1000 := Nat.le_of_ble_eq_true rfl
theorem rReserved_ok {s : Str} {Q : Bool → Prop} (h : Q (decide (s ∈ words))) : V_rReserved s Q := by
  have h2 := reserved_gen words_few h
  generalize ew : words = W at h2
  unfold words at ew
  unfold V_rReserved
  rw [ew]
  exact h2
theorem rSize_ok {w : Str} {Q : Int → Bool → Prop} (hw : w.length ≤ 1000000) (hd : ∀ c ∈ w, isDig c = true) (h1 : natD 0 w ≤ 9223372036854775808 → Q (natD 0 w) true) (h2 : ¬ natD 0 w ≤ 9223372036854775808 → Q 0 false) : V_rSize w Q := by
  have app : ∀ (u v : Str) (acc : Nat), natD acc (u ++ v) = natD (natD acc u) v := by
    intro u; induction u with
    | nil => intro v acc; rfl
    | cons c u ih => intro v acc; exact ih v _
  refine ⟨fun s => 0 ≤ s.2 ∧ s.2 ≤ w.length ∧ s.1 = natD 0 (w.take s.2.toNat) ∧ s.1 < 9223372036854775809, fun s => (w.length - s.2).toNat, ?_, ?_⟩
  · exact ⟨Int.le_refl _, Int.natCast_nonneg _, (by show (0 : Int) = ((natD 0 (w.take 0) : Nat) : Int); rw [List.take_zero]; rfl), (by decide)⟩
  rintro ⟨n, i⟩ ⟨i0, i1, e, hn⟩
  simp only at i0 i1 e hn
  refine ⟨by unfold Len; omega, fun hi => ?_, fun hi => ?_⟩
  · have hm := ix_mem i0 hi
    have hc := (isDig_i (ix w i)).1 (hd _ hm)
    have eb : byte w i = (((ix w i).toNat : Nat) : Int) := rfl
    have eu : IntKind.u8.wrap (byte w i - 48) = byte w i - 48 := IntWalk.u8_in _ ⟨by omega, by omega⟩
    have eu2 : IntKind.u64.wrap (byte w i - 48) = byte w i - 48 := IntWalk.u64_in _ ⟨by omega, by omega⟩
    have eu3 : IntKind.u64.wrap (9223372036854775808 - (byte w i - 48)) = 9223372036854775808 - (byte w i - 48) := IntWalk.u64_in _ ⟨by omega, by omega⟩
    have e1 : natD 0 (w.take (i + 1).toNat) = natD 0 (w.take i.toNat) * 10 + ((ix w i).toNat - 48) := by rw [take_ix i0 hi, app]; rfl
    have e2 : natD 0 w = natD (natD 0 (w.take (i + 1).toNat)) (w.drop (i + 1).toNat) := by rw [← app, List.take_append_drop]
    have ge := natD_ge (w.drop (i + 1).toNat) (natD 0 (w.take (i + 1).toNat))
    rw [eu, eu2, eu3, Int.tdiv_eq_ediv_of_nonneg (by omega)]
    refine ⟨⟨i0, hi⟩, by decide, fun hlt => h2 ?_, fun hlt => ⟨by unfold I64; omega, ?_⟩⟩
    · omega
    · rw [IntWalk.u64_in (n * 10) ⟨by omega, by omega⟩, IntWalk.u64_in (n * 10 + (byte w i - 48)) ⟨by omega, by omega⟩]
      exact ⟨⟨by show 0 ≤ i + 1; omega, by show i + 1 ≤ _; omega, by show n * 10 + (byte w i - 48) = ((natD 0 (w.take (i + 1).toNat) : Nat) : Int); omega, by show n * 10 + (byte w i - 48) < 9223372036854775809; omega⟩, by show (_ : Int).toNat < (_ : Int).toNat; omega⟩
  · have : i = w.length := by omega
    subst this
    simp only [Int.toNat_natCast, List.take_length] at e
    rw [e]; exact h1 (by omega)
def OutS (text : Str) (bad : Int) (Q : RV → Int → Int → Int → Prop) : RO Val → Prop
  | .ok v r h => ∀ a, AtT text a r → Q (toR v) a 0 bad
  | .err e r => e ≠ 0 → ∀ w a' s a, wtR w ≤ 1024 → AtT text a' s → AtT text a r → Q w a' e a
theorem neg_wrap {n : Nat} (h : n ≤ 9223372036854775808) (h0 : n ≠ 0) : IntKind.i64.wrap (IntKind.u64.wrap (-(n : Int))) = -(n : Int) := by
  simp only [IntKind.wrap, IntKind.bits, IntKind.signed]; simp; omega
theorem nilR_wt : wtR nilR ≤ 1024 := by decide
theorem rnumber_ok {rest q : Str} {c : UInt8} {w : Str} {deep bad xe : Int} {heavy minus : Bool} {Q : RV → Int → Int → Int → Prop} (ht : text.length ≤ 1000000) (h : AtT text a r) (hr : r = q ++ ((c :: w) ++ rest)) (hm0 : (c :: w).length ≤ 1000000) (hp : AtT text xe rest)
    (hO : OutS text bad Q (rdNum r (c :: w) rest minus heavy)) : V_rnumber text a deep 0 bad heavy (c :: w) minus a xe Q := by
  have e0 : byte (c :: w) 0 = ((c.toNat : Nat) : Int) := by simp [byte, ix]
  have c48 : c = 48 ↔ ((c.toNat : Nat) : Int) = 48 := ⟨fun h => by rw [h]; rfl, fun h => UInt8.toNat_inj.1 (by show c.toNat = 48; omega)⟩
  have main : ∀ ok : Bool, ok = (!((c :: w).take 1 == [48] && (decide (1 < (c :: w).length) || minus))) →
      VLoop (σ := Bool × Int) (ok, (0 : Int)) fun (ok_46, k_47) xnext_60 =>
        Len (c :: w) ∧
        (k_47 < ((c :: w).length : Int) →
          In k_47 (c :: w) ∧
          V_rDigit (byte (c :: w) k_47) fun r_64 =>
            I64 (k_47 + (1 : Int)) ∧
            xnext_60 (decide ((ok_46 = true) ∧ (r_64 = true)), (k_47 + (1 : Int)))) ∧
        (¬ (k_47 < ((c :: w).length : Int)) →
          ((!ok_46) = true →
            V_rfail text a deep 0 bad heavy (1 : Int) a fun r_69 r_71 =>
              Q (RV.mk 0 0 ([] : Str) ([] : List RV) ([] : List RV)) a r_69 r_71) ∧
          ((!ok_46) = false →
            V_rSize (c :: w) fun r_77 r_79 =>
              (((!r_79) = true) ∨ ((r_77 = (9223372036854775808 : Int)) ∧ ((!minus) = true)) →
                V_rfail text a deep 0 bad heavy (5 : Int) a fun r_83 r_85 =>
                  Q (RV.mk 0 0 ([] : Str) ([] : List RV) ([] : List RV)) a r_83 r_85) ∧
              (¬ (((!r_79) = true) ∨ ((r_77 = (9223372036854775808 : Int)) ∧ ((!minus) = true))) →
                VMeet (σ := Int) (fun n_92 =>
                    V_rNumber (IntKind.i64.wrap n_92) fun r_97 =>
                      Q r_97 xe 0 bad) fun J_94 =>
                  (minus = true →
                    J_94 (IntKind.u64.wrap (-r_77))) ∧
                  (minus = false →
                    J_94 r_77)))) := by
    intro ok hok
    refine ⟨fun s => 0 ≤ s.2 ∧ s.2 ≤ (c :: w).length ∧ s.1 = (ok && ((c :: w).take s.2.toNat).all isDig), fun s => ((c :: w).length - s.2).toNat, ⟨by simp, by simp; omega, by simp⟩, ?_⟩
    rintro ⟨o, k⟩ ⟨k0, k1, e⟩
    simp only at k0 k1 e
    refine ⟨by unfold Len; omega, fun hk => ⟨⟨k0, hk⟩, ?_⟩, fun hk => ?_⟩
    · show I64 (k + 1) ∧ _
      refine ⟨by unfold I64; omega, ⟨by show 0 ≤ k + 1; omega, by show k + 1 ≤ _; omega, ?_⟩, by show (((c :: w).length : Int) - (k + 1)).toNat < (((c :: w).length : Int) - k).toNat; omega⟩
      show decide (o = true ∧ decide _ = true) = (ok && ((c :: w).take (k + 1).toNat).all isDig)
      have ed : decide (((48 : Int) ≤ (byte (c :: w) k)) ∧ ((byte (c :: w) k) ≤ (57 : Int))) = isDig (ix (c :: w) k) := by
        rw [Bool.eq_iff_iff, decide_eq_true_eq, isDig_i]; rfl
      rw [ed, take_ix k0 hk, List.all_append, e]
      simp only [List.all_cons, List.all_nil, Bool.and_true, ← Bool.and_assoc]
      cases ok <;> cases ((c :: w).take k.toNat).all isDig <;> cases isDig (ix (c :: w) k) <;> rfl
    · have hk : k = (c :: w).length := by omega
      subst hk
      simp only [Int.toNat_natCast, List.take_length] at e
      have eg : o = ((c :: w).all isDig && !((c :: w).take 1 == [48] && (decide (1 < (c :: w).length) || minus))) := by rw [e, hok, Bool.and_comm]
      unfold rdNum at hO
      rw [← eg] at hO
      refine ⟨fun ho => ⟨fun _ => ?_, fun hn => absurd rfl hn⟩, fun ho => ?_⟩
      · have ho : o = false := by simpa using ho
        rw [if_neg (by simp [ho])] at hO
        exact hO (by decide) nilR a r a nilR_wt h h
      · have ho : o = true := by simpa using ho
        rw [if_pos ho] at hO
        have hd : ∀ x ∈ c :: w, isDig x = true := by
          rw [ho] at eg
          have := (Bool.and_eq_true_iff.1 eg.symm).1
          exact List.all_eq_true.1 this
        have hz : minus = true → natD 0 (c :: w) ≠ 0 := fun hm h0 => by
          rw [ho] at eg
          have h1 := (Bool.and_eq_true_iff.1 eg.symm).2
          have hc : c ≠ 48 := fun hc => by subst hc; simp [hm] at h1
          have hcd := (isDig_i c).1 (hd c (by simp))
          have hge := natD_ge w (0 * 10 + (c.toNat - 48))
          have : natD 0 (c :: w) = natD (0 * 10 + (c.toNat - 48)) w := rfl
          have : ¬ ((c.toNat : Nat) : Int) = 48 := fun h => hc (c48.2 h)
          omega
        refine rSize_ok hm0 hd (fun hle => ⟨fun hb => ⟨fun _ => ?_, fun hn => absurd rfl hn⟩, fun hb => VMeet_go ⟨fun hm => ?_, fun hm => ?_⟩⟩) (fun hle => ⟨fun _ => ⟨fun _ => ?_, fun hn => absurd rfl hn⟩, fun hb => absurd (Or.inl rfl) hb⟩)
        · rcases hb with hb | ⟨hb, hm⟩
          · simp at hb
          · have hm : minus = false := by simpa using hm
            rw [if_neg (by simp [hm]; omega)] at hO
            exact hO (by decide) nilR a r a nilR_wt h h
        · have hz := hz hm
          show Q (RV.mk 2 (IntKind.i64.wrap (IntKind.u64.wrap (-((natD 0 (c :: w) : Nat) : Int)))) [] [] []) xe 0 bad
          rw [neg_wrap hle hz]
          show Q (RV.mk 2 _ [] [] []) xe 0 bad
          rw [if_pos (by by_cases h9 : natD 0 (c :: w) ≤ 9223372036854775807
                         · exact Or.inl h9
                         · exact Or.inr ⟨hm, by omega⟩), if_pos hm] at hO
          exact hO xe hp
        · show Q (RV.mk 2 _ [] [] []) xe 0 bad
          have h9 : natD 0 (c :: w) ≤ 9223372036854775807 := by
            by_cases h8 : natD 0 (c :: w) = 9223372036854775808
            · exact absurd (Or.inr ⟨by omega, by simp [hm]⟩) hb
            · omega
          rw [IntWalk.i64_in _ ⟨by omega, by omega⟩]
          rw [if_pos (Or.inl h9), if_neg (by simp [hm])] at hO
          exact hO xe hp
        · rw [if_neg (by omega)] at hO
          exact hO (by decide) nilR a r a nilR_wt h h
  refine VMeet_go ⟨⟨by omega, by simp⟩, fun hc => ?_, fun hc => ?_⟩
  · rw [e0] at hc
    have : c ≠ 48 := fun h => hc (c48.1 h)
    exact main true (by simp [this])
  · rw [e0] at hc
    have hc : c = 48 := c48.2 (by omega)
    refine ⟨by unfold Len; omega, fun hl => main _ ?_, fun hl => main false ?_⟩
    · have : w = [] := List.length_eq_zero_iff.1 (by simp at hl; omega)
      subst this; simp [hc]
    · have h1 : 1 < (c :: w).length := by
        have h0 : (c :: w).length ≠ 0 := by simp
        omega
      have h2 : decide (1 < (c :: w).length) = true := decide_eq_true h1
      rw [h2, hc]; rfl
theorem rsingle_ok {deep bad : Int} {heavy : Bool} {Q : RV → Int → Int → Int → Prop} (ht : text.length ≤ 1000000) (h : AtT text a r) (hO : OutS text bad Q (rdSingle r heavy)) : V_rsingle text a deep 0 bad heavy Q := by
  have h0 := h.pos; have h1 := h.le; have hlen := h.len
  refine ⟨by unfold Len; omega, fun he => ?_, fun he => ?_⟩
  · have hr : r = [] := List.length_eq_zero_iff.1 (by omega)
    subst hr
    refine ⟨fun _ => ?_, fun hn => absurd rfl hn⟩
    have e : rdSingle [] heavy = .err 1 [] := by rfl
    rw [e] at hO
    exact hO (by decide) nilR a [] a nilR_wt h h
  cases r with
  | nil => simp at hlen; omega
  | cons c t =>
    obtain ⟨e1, e2, h2⟩ := h.cons
    have eb : byte text a = ((c.toNat : Nat) : Int) := by unfold byte; rw [e1]
    have k : ∀ n : UInt8, ((c.toNat : Nat) : Int) = ((n.toNat : Nat) : Int) ↔ c = n := fun n => ⟨fun h => UInt8.toNat_inj.1 (by omega), fun h => by rw [h]⟩
    have k34 := k 34; have k45 := k 45
    simp only [UInt8.toNat_ofNat] at k34 k45
    rw [eb]
    refine ⟨⟨h0, by omega⟩, fun hq => ?_, fun hq => ?_⟩
    · have hc := k34.1 hq
      subst hc
      have eS : rdSingle (34 :: t) heavy = (match quoted t with | some (s, t) => .ok (.text s) t heavy | none => .err 1 (34 :: t)) := by unfold rdSingle; rw [if_pos (by simp)]; rfl
      rw [eS] at hO
      refine rQuoted_ok ht h (fun s t' k hqu hk ek => ?_) (fun hqu => ?_)
      · rw [hqu] at hO
        refine ⟨fun hn => absurd hn (by omega), fun _ => ⟨by unfold I64; omega, by have := hk.le; unfold I64; omega, ⟨by omega, by omega, by have := hk.le; omega⟩, ?_⟩⟩
        have hsp := quoted_post hqu
        have hm : (text.take (k - 1).toNat).drop (a + 1).toNat = s := by
          have h3 := h2
          rw [hsp.1] at h3
          rw [show k - 1 = a + 1 + s.length by omega]; exact h3.mid
        rw [hm]
        exact hO k hk
      · rw [hqu] at hO
        exact ⟨fun _ => ⟨fun _ => hO (by decide) nilR a _ a nilR_wt h h, fun hn => absurd rfl hn⟩, fun hn => absurd (by omega) hn⟩
    · have hc : c ≠ 34 := fun hn => hq (k34.2 hn)
      have tail : ∀ (minus : Bool) (q r1 : Str) (from_ : Int), c :: t = q ++ r1 → AtT text from_ r1 → q.length = (if minus then 1 else 0) → (minus = true ↔ a < from_) → OutS text bad Q (rdWord (c :: t) (r1.takeWhile wordB) (r1.dropWhile wordB) minus heavy) →
          V_rRun text from_ fun r_62 =>
            ((0 : Int) ≤ from_ ∧ from_ ≤ r_62 ∧ r_62 ≤ (text.length : Int)) ∧
            (((text.take r_62.toNat).drop from_.toNat) = ([] : Str) →
              V_rfail text a deep 0 bad heavy (1 : Int) a fun r_66 r_68 =>
                Q (RV.mk 0 0 ([] : Str) ([] : List RV) ([] : List RV)) a r_66 r_68) ∧
            (¬ (((text.take r_62.toNat).drop from_.toNat) = ([] : Str)) →
              In (0 : Int) ((text.take r_62.toNat).drop from_.toNat) ∧
              V_rDigit (byte ((text.take r_62.toNat).drop from_.toNat) (0 : Int)) fun r_75 =>
                (r_75 = true →
                  V_rnumber text a deep 0 bad heavy ((text.take r_62.toNat).drop from_.toNat) (decide (a < from_)) a r_62 fun r_78 r_85 r_87 r_89 =>
                    Q r_78 r_85 r_87 r_89) ∧
                (r_75 = false →
                  In (0 : Int) ((text.take r_62.toNat).drop from_.toNat) ∧
                  V_rLetter (byte ((text.take r_62.toNat).drop from_.toNat) (0 : Int)) fun r_95 =>
                    ((a < from_) ∨ ((!r_95) = true) →
                      V_rfail text a deep 0 bad heavy (1 : Int) a fun r_100 r_102 =>
                        Q (RV.mk 0 0 ([] : Str) ([] : List RV) ([] : List RV)) a r_100 r_102) ∧
                    (¬ ((a < from_) ∨ ((!r_95) = true)) →
                      (((text.take r_62.toNat).drop from_.toNat) = ([110, 105, 108] : Str) →
                        Q (RV.mk 0 0 ([] : Str) ([] : List RV) ([] : List RV)) r_62 0 bad) ∧
                      (¬ (((text.take r_62.toNat).drop from_.toNat) = ([110, 105, 108] : Str)) →
                        (((text.take r_62.toNat).drop from_.toNat) = ([116, 114, 117, 101] : Str) →
                          V_rTruth true fun r_111 =>
                            Q r_111 r_62 0 bad) ∧
                        (¬ (((text.take r_62.toNat).drop from_.toNat) = ([116, 114, 117, 101] : Str)) →
                          (((text.take r_62.toNat).drop from_.toNat) = ([102, 97, 108, 115, 101] : Str) →
                            V_rTruth false fun r_121 =>
                              Q r_121 r_62 0 bad) ∧
                          (¬ (((text.take r_62.toNat).drop from_.toNat) = ([102, 97, 108, 115, 101] : Str)) →
                            V_rReserved ((text.take r_62.toNat).drop from_.toNat) fun r_131 =>
                              VMeet (σ := Int × Int) (fun (c_139, c_141) =>
                                  VMeet (σ := Int × Int) (fun (c_159, c_161) =>
                                      Q (RV.mk (4 : Int) 0 ((text.take r_62.toNat).drop from_.toNat) ([] : List RV) ([] : List RV)) r_62 c_159 c_161) fun J_163 =>
                                    Len ((text.take r_62.toNat).drop from_.toNat) ∧
                                    ((16 : Int) < (((text.take r_62.toNat).drop from_.toNat).length : Int) →
                                      V_rfail text r_62 deep c_139 c_141 heavy (5 : Int) a fun r_167 r_169 =>
                                        J_163 (r_167, r_169)) ∧
                                    (¬ ((16 : Int) < (((text.take r_62.toNat).drop from_.toNat).length : Int)) →
                                      J_163 (c_139, c_141))) fun J_143 =>
                                (r_131 = true →
                                  V_rfail text r_62 deep 0 bad heavy (1 : Int) a fun r_145 r_147 =>
                                    J_143 (r_145, r_147)) ∧
                                (r_131 = false →
                                  J_143 (0, bad)))))))) := by
        intro minus q r1 from_ er hf hq hmf hO
        refine rRun_ok ht hf fun xe hxe ee => ?_
        have hsplit : r1 = r1.takeWhile wordB ++ r1.dropWhile wordB := (List.takeWhile_append_dropWhile ..).symm
        have hall : ∀ x ∈ r1.takeWhile wordB, wordB x = true := fun x hx => List.all_eq_true.1 (List.all_takeWhile (p := wordB) (l := r1)) x hx
        revert hxe ee hO hsplit hall
        generalize r1.takeWhile wordB = w
        generalize r1.dropWhile wordB = rest
        intro hO hxe ee hsplit hall
        have f0 := hf.pos; have x1 := hxe.le
        have hm : (text.take xe.toNat).drop from_.toNat = w := by
          have h3 := hf
          rw [hsplit] at h3
          rw [ee]; exact h3.mid
        rw [hm]
        refine ⟨⟨f0, by omega, x1⟩, fun hw => ⟨fun _ => ?_, fun hn => absurd rfl hn⟩, fun hw => ?_⟩
        · subst hw
          exact hO (by decide) nilR a _ a nilR_wt h h
        cases w with
        | nil => exact absurd rfl hw
        | cons d w =>
          have e0 : byte (d :: w) 0 = ((d.toNat : Nat) : Int) := by simp [byte, ix]
          have i0 : In (0 : Int) (d :: w) := ⟨by omega, by simp⟩
          have hwl : (d :: w).length ≤ 1000000 := by omega
          unfold rdWord at hO
          simp only at hO
          have ed : decide (((48 : Int) ≤ ((d.toNat : Nat) : Int)) ∧ (((d.toNat : Nat) : Int) ≤ (57 : Int))) = isDig d := by
            rw [Bool.eq_iff_iff, decide_eq_true_eq, isDig_i]
          have em : decide (a < from_) = minus := by
            rw [Bool.eq_iff_iff, decide_eq_true_eq]; exact hmf.symm
          refine ⟨i0, ?_⟩
          rw [e0]
          show (_ → _) ∧ _
          rw [ed]
          refine ⟨fun hd => ?_, fun hd => ⟨i0, ?_⟩⟩
          · rw [if_pos hd] at hO
            rw [em]
            exact rnumber_ok (q := q) ht h (by rw [er, hsplit]) hwl hxe hO
          rw [if_neg (by simp [hd])] at hO
          have hdw := hall d (by simp)
          have lw := (wordB_i d).2 hdw
          have ld : ¬ ((48 : Int) ≤ ((d.toNat : Nat) : Int) ∧ ((d.toNat : Nat) : Int) ≤ 57) := fun h => by
            have := (isDig_i d).2 h; rw [hd] at this; cases this
          have k95 : d = 95 ↔ ((d.toNat : Nat) : Int) = 95 := ⟨fun h => by rw [h]; rfl, fun h => UInt8.toNat_inj.1 (by show d.toNat = 95; omega)⟩
          refine ⟨fun hb => ⟨fun _ => ?_, fun hn => absurd rfl hn⟩, fun hb => ?_⟩
          · have : (minus || d == 95) = true := by
              rcases hb with hb | hb
              · rw [hmf.2 hb]; rfl
              · simp at hb
                have : d = 95 := k95.2 (by omega)
                simp [this]
            rw [if_pos this] at hO
            exact hO (by decide) nilR a _ a nilR_wt h h
          · have hmn : minus = false := by
              cases minus with
              | false => rfl
              | true => exact absurd (Or.inl (hmf.1 rfl)) hb
            have h95 : ¬ d = 95 := fun h => hb (Or.inr (by have := k95.1 h; simp; omega))
            rw [if_neg (by simp [hmn, h95])] at hO
            refine ⟨fun ew => ?_, fun ew => ⟨fun ew2 => ⟨fun _ => ?_, fun hn => by cases hn⟩, fun ew2 => ⟨fun ew3 => ⟨fun hn => (by cases hn), fun _ => ?_⟩, fun ew3 => ?_⟩⟩⟩
            · rw [if_pos ew] at hO; exact hO xe hxe
            · rw [if_neg ew, if_pos ew2] at hO; exact hO xe hxe
            · rw [if_neg ew, if_neg ew2, if_pos ew3] at hO; exact hO xe hxe
            rw [if_neg ew, if_neg ew2, if_neg ew3] at hO
            refine rReserved_ok (VMeet_go ⟨fun hr => ⟨fun _ => VMeet_go ⟨by unfold Len; omega, fun hl => ⟨fun hn => absurd hn (by decide), fun _ => ?_⟩, fun hl => ?_⟩, fun hn => absurd rfl hn⟩, fun hr => VMeet_go ⟨by unfold Len; omega, fun hl => ⟨fun _ => ?_, fun hn => absurd rfl hn⟩, fun hl => ?_⟩⟩)
            · rw [if_pos (by simpa using hr)] at hO
              exact hO (by decide) _ xe _ a (by simp [wtR, wtRL]) hxe h
            · rw [if_pos (by simpa using hr)] at hO
              exact hO (by decide) _ xe _ a (by simp [wtR, wtRL]) hxe h
            · rw [if_neg (by simpa using hr), if_pos (by omega)] at hO
              exact hO (by decide) _ xe _ a (by simp [wtR, wtRL]) hxe h
            · rw [if_neg (by simpa using hr), if_neg (by omega)] at hO
              exact hO xe hxe
      unfold rdSingle at hO
      rw [if_neg (by simpa using hc)] at hO
      refine VMeet_go ⟨⟨h0, by omega⟩, fun hm => ⟨by unfold I64; omega, ?_⟩, fun hm => ?_⟩
      · have hc := k45.1 hm
        subst hc
        rw [if_pos (by simp)] at hO
        exact tail true [45] t (a + 1) rfl h2 rfl (by simp; omega) hO
      · have hc : c ≠ 45 := fun hn => hm (k45.2 hn)
        rw [if_neg (by simpa using hc)] at hO
        exact tail false [] (c :: t) a rfl h rfl (by simp) hO
end
end Go.Vc
