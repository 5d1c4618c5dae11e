/- The program's reader does what reading in plain words says, part 1: what has no parts. No program in sight. -/
import Derived.Test.YtlhkfkecoekoeaaGreatDoorPlainV9
set_option linter.unusedVariables false
set_option linter.unusedSimpArgs false
namespace Go.Vc
def AtT (text : Str) (a : Int) (r : Str) : Prop := ∃ p, text = p ++ r ∧ a = p.length
section
variable {text r : Str} {a : Int}
theorem AtT.drop (h : AtT text a r) : text.drop a.toNat = r := by obtain ⟨p, rfl, rfl⟩ := h; simp
theorem AtT.pos (h : AtT text a r) : 0 ≤ a := by obtain ⟨p, rfl, rfl⟩ := h; omega
theorem AtT.len (h : AtT text a r) : a = (text.length : Int) - r.length := by obtain ⟨p, rfl, rfl⟩ := h; simp
theorem AtT.le (h : AtT text a r) : a ≤ text.length := by have := h.len; omega
theorem AtT.app {p s : Str} (h : AtT text a (p ++ s)) : AtT text (a + p.length) s := by
  obtain ⟨q, rfl, rfl⟩ := h; exact ⟨q ++ p, by simp, by simp⟩
theorem AtT.cons {c : UInt8} {s : Str} (h : AtT text a (c :: s)) : ix text a = c ∧ a < text.length ∧ AtT text (a + 1) s := by
  obtain ⟨q, rfl, rfl⟩ := h
  exact ⟨ix_app rfl, by simp; omega, ⟨q ++ [c], by simp, by simp⟩⟩
theorem AtT.mid {p s : Str} (h : AtT text a (p ++ s)) : (text.take (a + p.length).toNat).drop a.toNat = p := by
  obtain ⟨q, rfl, rfl⟩ := h
  have : ((q.length : Int) + p.length).toNat = q.length + p.length := by omega
  rw [this]; simp [List.take_append]
theorem AtT.start (text : Str) : AtT text 0 text := ⟨[], rfl, rfl⟩
def Out {α : Type} (text : Str) (E : Int → Int → Prop) (Q : α → Int → Bool → Prop) : RO α → Prop
  | .ok v r h => ∀ a, AtT text a r → Q v a h
  | .err e r => ∀ a, AtT text a r → E e a
theorem idx_space (c : UInt8) : (0 ≤ Lib.indexByte [32, 9, 10] c) ↔ spaceB c = true := by
  simp only [Lib.indexByte, spaceB]
  by_cases h1 : c = 32
  · subst h1; simp
  · by_cases h2 : c = 9
    · subst h2; decide
    · by_cases h3 : c = 10
      · subst h3; decide
      · have e1 : ((32 : UInt8) == c) = false := by simpa using fun h => h1 h.symm
        have e2 : ((9 : UInt8) == c) = false := by simpa using fun h => h2 h.symm
        have e3 : ((10 : UInt8) == c) = false := by simpa using fun h => h3 h.symm
        simp [e1, e2, e3, h1, h2, h3]
theorem idx_i64 (c : UInt8) : I64 (Lib.indexByte [32, 9, 10] c) := by
  simp only [Lib.indexByte, I64]; repeat' split
  all_goals (first | decide | omega)
theorem byte_back {x : Str} {i : Int} : (byte x i).toNat.toUInt8 = ix x i := by
  unfold byte; rw [Int.toNat_natCast]; exact UInt8.ofNat_toNat ..
theorem skip_ok {deep : Int} {heavy : Bool} {Q : Int → Prop} (ht : text.length ≤ 1000000) (h : AtT text a r) (hQ : ∀ a', AtT text a' (skipS r) → Q a') : V_skip text a deep heavy Q := by
  refine ⟨fun c => ∃ s, AtT text c s ∧ skipS s = skipS r, fun c => (text.length - c).toNat, ⟨r, h, rfl⟩, ?_⟩
  show ∀ c : Int, _ → _
  rintro c ⟨s, hs, e⟩
  refine VMeet_go ⟨by unfold Len; omega, fun hc => ?_, fun hc => ⟨fun hn => by simp at hn, fun _ => ?_⟩⟩
  · cases s with
    | nil => have := hs.len; simp at this; omega
    | cons x s =>
      obtain ⟨e1, e2, h2⟩ := hs.cons
      refine ⟨⟨hs.pos, hc⟩, _, ⟨by simp, rfl⟩, by rw [byte_back]; exact idx_i64 _, ?_⟩
      rw [byte_back, e1]
      refine ⟨fun hn => ⟨by unfold I64; have := hs.pos; omega, ⟨s, h2, ?_⟩, by show (_ : Int).toNat < (_ : Int).toNat; have := hs.pos; omega⟩, fun hn => hQ c ?_⟩
      · have := (idx_space x).1 (by simpa using hn)
        rw [← e]; simp [skipS, this]
      · have : ¬ spaceB x = true := fun h3 => by have := (idx_space x).2 h3; simp at hn; omega
        rw [← e]; simpa [skipS, this] using hs
  · cases s with
    | nil => exact hQ c (by rw [← e]; exact hs)
    | cons x s => have := hs.cons; omega
theorem hasPre_ok {s sign : Str} {Q : Bool → Prop} (hs : s.length ≤ 1000000) (hg : sign.length ≤ 1000000) (h : Q (decide (s.take sign.length = sign))) : V_hasPre s sign Q := by
  refine VMeet_go ⟨by unfold Len; omega, by unfold Len; omega, fun hl => ⟨by unfold Len; omega, ⟨by omega, by omega⟩, ?_⟩, fun hl => ?_⟩
  · simpa using h
  · have : ¬ s.take sign.length = sign := fun e => by have := congrArg List.length e; simp at this; omega
    simpa [this] using h
theorem take_ok {deep : Int} {heavy : Bool} {sign : Str} {Q : Bool → Int → Prop} (ht : text.length ≤ 1000000) (hg : sign.length ≤ 1000) (h : AtT text a r) (hQ : ∀ b r' a', takeS sign r = (b, r') → AtT text a' r' → Q b a') : V_take text a deep heavy sign Q := by
  refine skip_ok ht h fun a' h' => ⟨⟨h'.pos, h'.le⟩, ?_⟩
  rw [h'.drop]
  have hl : (skipS r).length ≤ 1000000 := by have := h'.len; have := h'.pos; omega
  refine hasPre_ok hl (by omega) ⟨fun hp => ?_, fun hp => ?_⟩
  · have hp : (skipS r).take sign.length = sign := by simpa using hp
    have e : skipS r = sign ++ (skipS r).drop sign.length := by conv => lhs; rw [← List.take_append_drop sign.length (skipS r), hp]
    have h2 := h'
    rw [e] at h2
    have h3 := h2.app
    have := h3.le; have := h'.pos
    exact ⟨by unfold Len; omega, by unfold I64; omega, hQ true _ _ (by unfold takeS; rw [if_pos hp]) h3⟩
  · have hp : ¬ (skipS r).take sign.length = sign := by simpa using hp
    exact hQ false _ _ (by unfold takeS; rw [if_neg hp]) h'
theorem want_ok {deep : Int} {heavy : Bool} {sign : Str} {E : Int → Int → Prop} {Q : Int → Prop} (ht : text.length ≤ 1000000) (hg : sign.length ≤ 1000) (h : AtT text a r)
    (hQ : ∀ r' a', takeS sign r = (true, r') → AtT text a' r' → Q a') (hE : ∀ r' a', takeS sign r = (false, r') → AtT text a' r' → E 1 a') : V_want text a deep heavy sign E Q := by
  refine take_ok ht hg h fun b r' a' e h' => ⟨fun hb => ?_, fun hb => ?_⟩
  · have : b = false := by simpa using hb
    subst this; exact hE r' a' e h'
  · have : b = true := by simpa using hb
    subst this; exact hQ r' a' e h'
theorem wordB_i (c : UInt8) : (((((97 : Int) ≤ ((c.toNat : Nat) : Int)) ∧ (((c.toNat : Nat) : Int) ≤ (122 : Int))) ∨ (((65 : Int) ≤ ((c.toNat : Nat) : Int)) ∧ (((c.toNat : Nat) : Int) ≤ (90 : Int)))) ∨ (((48 : Int) ≤ ((c.toNat : Nat) : Int)) ∧ (((c.toNat : Nat) : Int) ≤ (57 : Int)))) ∨ (((c.toNat : Nat) : Int) = (95 : Int)) ↔ wordB c = true := by
  have e : c = 95 ↔ c.toNat = 95 := ⟨fun h => by rw [h]; rfl, fun h => UInt8.toNat_inj.1 h⟩
  simp only [wordB, Bool.or_eq_true, Bool.and_eq_true, decide_eq_true_eq, beq_iff_eq, UInt8.le_iff_toNat_le, e, UInt8.toNat_ofNat]
  omega
theorem isDig_i (c : UInt8) : isDig c = true ↔ (48 : Int) ≤ ((c.toNat : Nat) : Int) ∧ ((c.toNat : Nat) : Int) ≤ 57 := by
  simp only [isDig, Bool.and_eq_true, decide_eq_true_eq, UInt8.le_iff_toNat_le, UInt8.toNat_ofNat]
  omega
theorem word_ok {deep : Int} {heavy : Bool} {Q : Str → Prop} (ht : text.length ≤ 1000000) (h : AtT text a r) (hQ : Q (r.takeWhile wordB)) : V_word text a deep heavy Q := by
  refine ⟨fun k => ∃ p s, r = p ++ s ∧ k = a + p.length ∧ r.takeWhile wordB = p ++ s.takeWhile wordB, fun k => (text.length - k).toNat, ⟨[], r, by simp, by simp, by simp⟩, ?_⟩
  show ∀ c : Int, _ → _
  rintro k ⟨p, s, e, e2, e3⟩
  have hs : AtT text k s := by rw [e2]; subst e; exact h.app
  have h0 := h.pos; have h1 := hs.pos; have h2 := hs.le
  have fin : s.takeWhile wordB = [] → ((0 : Int) ≤ a ∧ a ≤ k ∧ k ≤ (text.length : Int)) ∧ Q ((text.take k.toNat).drop a.toNat) := fun hn => by
    refine ⟨⟨h0, by omega, h2⟩, ?_⟩
    rw [hn, List.append_nil] at e3
    subst e
    rw [e2, h.mid, ← e3]; exact hQ
  refine VMeet_go ⟨by unfold Len; omega, fun hk => ?_, fun hk => ⟨fun hn => by simp at hn, fun _ => ?_⟩⟩
  · cases s with
    | nil => have := hs.len; simp at this; omega
    | cons x s =>
      obtain ⟨e5, e6, h3⟩ := hs.cons
      refine ⟨⟨h1, hk⟩, ?_⟩
      show (_ → _) ∧ (_ → _)
      have eb : byte text k = ((x.toNat : Nat) : Int) := by unfold byte; rw [e5]
      rw [eb]
      refine ⟨fun hn => ⟨by unfold I64; omega, ⟨p ++ [x], s, by rw [e]; simp, by simp; omega, ?_⟩, by show (_ : Int).toNat < (_ : Int).toNat; omega⟩, fun hn => fin ?_⟩
      · have := (wordB_i x).1 (by simpa using hn)
        rw [e3]; simp [this]
      · have : ¬ wordB x = true := fun h4 => by have := (wordB_i x).2 h4; simp at hn; omega
        simp [this]
  · cases s with
    | nil => exact fin rfl
    | cons x s => have := hs.cons; omega
theorem Reserved_ok {s : Str} {Q : Bool → Prop} (h : Q (decide (s ∈ words))) : V_Reserved s Q := by
  unfold V_Reserved
  refine VMeet_go ?_
  by_cases hm : s ∈ words
  · have kt : Q true := by simpa [hm] using h
    simp only [words, List.mem_cons, List.not_mem_nil, or_false] at hm
    iterate 51 (refine ⟨fun e => ⟨fun _ => kt, fun hn => absurd (decide_eq_true e) (by rw [hn]; simp)⟩, fun hne => ?_⟩; replace hm := hm.resolve_left hne; clear hne)
    exact ⟨fun _ => kt, fun hn => absurd (decide_eq_true hm) (by rw [hn]; simp)⟩
  · have kf : Q false := by simpa [hm] using h
    simp only [words, List.mem_cons, List.not_mem_nil, or_false, not_or] at hm
    iterate 51 (refine ⟨fun e => absurd e hm.1, fun _ => ?_⟩; replace hm := hm.2)
    refine ⟨fun hd => ?_, fun _ => kf⟩
    have e : s = ([115, 101, 113, 115] : Str) := by simpa using hd
    exact absurd e hm
theorem natD_ge (w : Str) : ∀ (acc : Nat), acc ≤ natD acc w := by
  induction w with
  | nil => intro acc; exact Nat.le_refl _
  | cons c w ih =>
    intro acc
    have := ih (acc * 10 + (c.toNat - 48))
    show acc ≤ natD (acc * 10 + (c.toNat - 48)) w
    omega
theorem parseM {M : Nat} (h1 : M < 1844674407370955162 * 10) (w : Str) : ∀ (acc : Nat), acc ≤ M → (∀ c ∈ w, isDig c = true) → Lib.parseUintM M acc w = if natD acc w ≤ M then .ok (natD acc w) else .range := by
  induction w with
  | nil =>
    intro acc h _
    have e : natD acc [] = acc := rfl
    rw [e, if_pos h]; rfl
  | cons c w ih =>
    intro acc h hd
    have e0 : Lib.parseUintM M acc (c :: w) = if 48 ≤ c.toNat ∧ c.toNat ≤ 57 then (if 1844674407370955162 ≤ acc then .range else if M < acc * 10 + (c.toNat - 48) then .range else Lib.parseUintM M (acc * 10 + (c.toNat - 48)) w) else _ := rfl
    have hc := (isDig_i c).1 (hd c (by simp))
    have hg := natD_ge w (acc * 10 + (c.toNat - 48))
    have e : natD acc (c :: w) = natD (acc * 10 + (c.toNat - 48)) w := rfl
    rw [e, e0]
    rw [if_pos ⟨by omega, by omega⟩]
    by_cases h2 : 1844674407370955162 ≤ acc
    · rw [if_pos h2, if_neg (by omega)]
    · rw [if_neg h2]
      by_cases h3 : M < acc * 10 + (c.toNat - 48)
      · rw [if_pos h3, if_neg (by omega)]
      · rw [if_neg h3]; exact ih _ (by omega) fun x hx => hd x (List.mem_cons_of_mem _ hx)
theorem number_ok {rest q : Str} {c : UInt8} {w : Str} {deep : Int} {heavy minus : Bool} {E : Int → Int → Prop} {Q : Val → Int → Prop} (ht : text.length ≤ 1000000) (h : AtT text a r) (hr : r = q ++ ((c :: w) ++ rest)) (hq : q.length = if minus then 1 else 0)
    (hO : Out text E (fun v a h => Q v a) (rdNum r (c :: w) rest minus heavy)) : V_number text a deep heavy (c :: w) minus E Q := by
  have hp : AtT text (a + q.length + (c :: w).length) rest := by subst hr; exact h.app.app
  have h0 := h.pos; have h1 := hp.le
  have bad : ¬ (((c :: w).all isDig && !((c :: w).take 1 == [48] && (decide (1 < (c :: w).length) || minus))) = true) → E 1 a := fun hn => by
    unfold rdNum at hO; rw [if_neg hn] at hO; exact hO a h
  have hlen : ((c :: w).length : Int) ≤ 1000000 := by omega
  refine ⟨by unfold Len; omega, ?_⟩
  refine ⟨fun x => 0 ≤ x ∧ x ≤ (c :: w).length ∧ (∀ d ∈ (c :: w).take x.toNat, isDig d = true) ∧ (0 < x → c = 48 → x ≤ 1 ∧ minus = false), fun x => (((c :: w).length : Int) - x).toNat, ⟨by simp, by simp; omega, by simp, by simp⟩, ?_⟩
  show ∀ x : Int, _ → _
  rintro x ⟨x0, x1, x2, x3⟩
  refine ⟨fun hx => VMeet_go (VMeet_go ⟨⟨x0, hx⟩, ?_⟩), fun hx => ?_⟩
  · have mem := ix_mem x0 hx
    have eb : byte (c :: w) x = (((ix (c :: w) x).toNat : Nat) : Int) := rfl
    have e0 : byte (c :: w) 0 = ((c.toNat : Nat) : Int) := by simp [byte, ix]
    have nd : ¬ isDig (ix (c :: w) x) = true → E 1 a := fun hn => bad fun hg => hn (List.all_eq_true.1 (Bool.and_eq_true_iff.1 hg).1 _ mem)
    have nz : c = 48 → (1 < (c :: w).length ∨ minus = true) → E 1 a := fun hc hm => bad fun hg => by
      have := (Bool.and_eq_true_iff.1 hg).2
      subst hc
      rcases hm with hm | hm <;> simp_all
    have go : isDig (ix (c :: w) x) = true → (c = 48 → ¬ 0 < x ∧ minus = false) → (0 ≤ IntKind.i64.wrap (x + 1) ∧ IntKind.i64.wrap (x + 1) ≤ (c :: w).length ∧ (∀ d ∈ (c :: w).take (IntKind.i64.wrap (x + 1)).toNat, isDig d = true) ∧ (0 < IntKind.i64.wrap (x + 1) → c = 48 → IntKind.i64.wrap (x + 1) ≤ 1 ∧ minus = false)) ∧ (((c :: w).length : Int) - IntKind.i64.wrap (x + 1)).toNat < (((c :: w).length : Int) - x).toNat := fun hd hz => by
      rw [IntWalk.i64_in _ ⟨by omega, by omega⟩]
      refine ⟨⟨by omega, by omega, fun d hm => ?_, fun _ hc => ⟨by have := (hz hc).1; omega, (hz hc).2⟩⟩, by omega⟩
      rw [take_ix x0 hx] at hm
      rcases List.mem_append.1 hm with hm | hm
      · exact x2 d hm
      · rw [List.mem_singleton.1 hm]; exact hd
    rw [eb, e0]
    have id := isDig_i (ix (c :: w) x)
    have c48 : c = 48 ↔ ((c.toNat : Nat) : Int) = 48 := ⟨fun h => by rw [h]; rfl, fun h => UInt8.toNat_inj.1 (by show c.toNat = 48; omega)⟩
    refine ⟨fun hl => ⟨fun _ => nd fun hd => by have := id.1 hd; omega, fun hn => by simp at hn⟩, fun hl => ⟨⟨x0, hx⟩, fun hl2 => ⟨fun _ => nd fun hd => by have := id.1 hd; omega, fun hn => by simp at hn⟩, fun hl2 => ⟨⟨by omega, by simp⟩, fun h48 => ⟨fun hx0 => ⟨fun _ => nz (c48.2 h48) (Or.inl (by omega)), fun hn => by simp at hn⟩, fun hx0 => ⟨fun hm => nz (c48.2 h48) (Or.inr hm), fun hm => go (id.2 ⟨by omega, by omega⟩) fun _ => ⟨hx0, hm⟩⟩⟩, fun h48 => ⟨fun hn => by simp at hn, fun _ => go (id.2 ⟨by omega, by omega⟩) fun hc => absurd (c48.1 hc) h48⟩⟩⟩⟩
  · have hx : x = (c :: w).length := by omega
    subst hx
    simp only [Int.toNat_natCast, List.take_length] at x2
    have good : ((c :: w).all isDig && !((c :: w).take 1 == [48] && (decide (1 < (c :: w).length) || minus))) = true := by
      rw [Bool.and_eq_true_iff]
      refine ⟨List.all_eq_true.2 x2, ?_⟩
      by_cases hc : c = 48
      · have := x3 (by simp) hc
        have h2 : ¬ 1 < (c :: w).length := by omega
        simp only [this.2, h2]; simp
      · simp [hc]
    unfold rdNum at hO
    rw [if_pos good] at hO
    refine ⟨rfl, rfl, by omega, ?_⟩
    have hpm : Lib.parseUintB 64 (c :: w) = if natD 0 (c :: w) ≤ 18446744073709551615 then .ok (natD 0 (c :: w)) else .range := by
      unfold Lib.parseUintB; rw [if_neg (by simp)]
      exact parseM (by decide) _ 0 (by omega) x2
    have okk : ∀ n : Nat, n = natD 0 (c :: w) → n ≤ 18446744073709551615 → (n ≤ 9223372036854775807 ∨ (minus = true ∧ n = 9223372036854775808)) → Len (c :: w) ∧ (minus = true → V_Number (wneg (IntKind.i64.wrap (n : Int))) fun r_228 => Q r_228 (IntKind.i64.wrap ((IntKind.i64.wrap (a + ((c :: w).length : Int))) + (1 : Int)))) ∧ (minus = false → V_Number (IntKind.i64.wrap (n : Int)) fun r_234 => Q r_234 (IntKind.i64.wrap (a + ((c :: w).length : Int)))) := fun n hn hM hb => by
      rw [if_pos (by rw [← hn]; exact hb)] at hO
      refine ⟨by unfold Len; omega, fun hm => ?_, fun hm => ?_⟩
      · have := hO _ hp
        rw [if_pos hm, ← hn] at this
        rw [hq, if_pos hm] at hp this
        rw [IntWalk.i64_in (a + ((c :: w).length : Int)) ⟨by omega, by omega⟩, IntWalk.i64_in (a + ((c :: w).length : Int) + 1) ⟨by omega, by omega⟩]
        show Q (.num _) _
        have e : wneg (IntKind.i64.wrap (n : Int)) = -(n : Int) := by
          unfold wneg
          by_cases hz : n = 9223372036854775808
          · subst hz; decide
          · rw [IntWalk.i64_in (n : Int) ⟨by omega, by omega⟩, if_neg (by omega)]
        rw [e, show a + ((c :: w).length : Int) + 1 = a + ((1 : Nat) : Int) + ((c :: w).length : Int) by omega]; exact this
      · have := hO _ hp
        rw [if_neg (by simp [hm]), ← hn] at this
        rw [hq, if_neg (by simp [hm])] at hp this
        rw [IntWalk.i64_in (a + ((c :: w).length : Int)) ⟨by omega, by omega⟩]
        have hn2 : n ≤ 9223372036854775807 := by rcases hb with hb | hb <;> simp_all
        show Q (.num _) _
        rw [IntWalk.i64_in (n : Int) ⟨by omega, by omega⟩, show a + ((c :: w).length : Int) = a + ((0 : Nat) : Int) + ((c :: w).length : Int) by omega]; exact this
    have bad5 : ¬ (natD 0 (c :: w) ≤ 9223372036854775807 ∨ (minus = true ∧ natD 0 (c :: w) = 9223372036854775808)) → E 5 a := fun hn => by rw [if_neg hn] at hO; exact hO a h
    rw [hpm]
    by_cases hM : natD 0 (c :: w) ≤ 18446744073709551615
    · rw [if_pos hM]
      refine VMeet_go (VMeet_go ⟨fun hn => by simp at hn, fun _ => ⟨fun hl => ⟨fun hm => ?_, fun hm => ?_⟩, fun hl => ⟨fun hn => by simp at hn, fun _ => okk _ rfl hM (Or.inl (by omega))⟩⟩⟩)
      · refine ⟨fun hn => bad5 ?_, fun hn => okk _ rfl hM (Or.inr ⟨hm, ?_⟩)⟩
        · simp at hn; omega
        · simp at hn; omega
      · exact ⟨fun _ => bad5 (by simp [hm]; omega), fun hn => by simp at hn⟩
    · rw [if_neg hM]
      exact VMeet_go (VMeet_go ⟨fun _ => ⟨fun _ => bad5 (by omega), fun hn => by simp at hn⟩, fun hn => by simp at hn⟩)
end
end Go.Vc
