/- What is shown is read to the same value. No program in sight. -/
import Derived.Test.YtlhkfkecoekoeaaGreatDoorPlainV11
set_option linter.unusedVariables false
set_option linter.unusedSimpArgs false
namespace Go.Vc
/-- No word goes on here. -/
def Sep (r : Str) : Prop := ∀ c s, r = c :: s → wordB c = false
theorem Sep.mk {c : UInt8} {s : Str} (h : wordB c = false) : Sep (c :: s) := fun d t e => by injection e with e1 e2; subst e1; exact h
theorem Sep.nil : Sep [] := fun d t e => by cases e
theorem tw_word {w r : Str} (hw : ∀ c ∈ w, wordB c = true) (hr : Sep r) : (w ++ r).takeWhile wordB = w ∧ (w ++ r).dropWhile wordB = r := by
  induction w with
  | nil =>
    cases r with
    | nil => simp
    | cons c s => simp [hr c s rfl]
  | cons c w ih =>
    have := ih fun d hd => hw d (by simp [hd])
    simp [hw c (by simp), this.1, this.2]
/-! ### Numbers -/
theorem natD_snoc (w : Str) (c : UInt8) : ∀ acc, natD acc (w ++ [c]) = natD acc w * 10 + (c.toNat - 48) := by
  induction w with
  | nil => intro acc; rfl
  | cons d w ih => intro acc; exact ih _
theorem dg_toNat {n : Nat} (h : n < 10) : (UInt8.ofNat (48 + n)).toNat = 48 + n := by
  rw [UInt8.toNat_ofNat']; omega
theorem dg_isDig {n : Nat} (h : n < 10) : isDig (UInt8.ofNat (48 + n)) = true := by
  rw [isDig_i, dg_toNat h]; omega
theorem digs_val : ∀ (f n : Nat), n < 10 ^ f → natD 0 (digs f n) = n
  | 0, n, h => by simp at h; subst h; rfl
  | f + 1, n, h => by
    unfold digs
    split
    · rename_i h1
      show 0 * 10 + ((UInt8.ofNat (48 + n)).toNat - 48) = n
      rw [dg_toNat h1]; omega
    · have h2 : n / 10 < 10 ^ f := by rw [Nat.pow_succ] at h; omega
      rw [natD_snoc, digs_val f _ h2, dg_toNat (by omega)]; omega
theorem digs_dig : ∀ (f n : Nat), ∀ c ∈ digs f n, isDig c = true
  | 0, n, c, h => by simp [digs] at h
  | f + 1, n, c, h => by
    unfold digs at h
    split at h
    · rename_i h1; rw [List.mem_singleton.1 h]; exact dg_isDig h1
    · rcases List.mem_append.1 h with h | h
      · exact digs_dig f _ c h
      · rw [List.mem_singleton.1 h]; exact dg_isDig (by omega)
theorem digs_head : ∀ (f n : Nat), n < 10 ^ f → 0 < f → ∃ c w, digs f n = c :: w ∧ (c = 48 → n = 0 ∧ w = [])
  | 0, n, h, h0 => absurd h0 (by omega)
  | f + 1, n, h, h0 => by
    unfold digs
    split
    · rename_i h1
      refine ⟨_, [], rfl, fun e => ⟨?_, rfl⟩⟩
      have := dg_toNat h1
      rw [e] at this; simp at this; omega
    · rename_i h1
      have h2 : n / 10 < 10 ^ f := by rw [Nat.pow_succ] at h; omega
      have hf : 0 < f := by
        cases f with
        | zero => simp at h2; omega
        | succ f => omega
      obtain ⟨c, w, e, hc⟩ := digs_head f (n / 10) h2 hf
      exact ⟨c, w ++ [UInt8.ofNat (48 + n % 10)], by rw [e]; rfl, fun h => by have := (hc h).1; omega⟩
theorem isDig_word {c : UInt8} (h : isDig c = true) : wordB c = true := by
  rw [isDig_i] at h; rw [← wordB_i]; omega
theorem rdNum_ok {r rest : Str} {n : Nat} {minus h : Bool} (hn : n ≤ 9223372036854775807 ∨ (minus = true ∧ n = 9223372036854775808)) (hm : minus = true → 1 ≤ n) :
    rdWord r (digs 20 n) rest minus h = .ok (.num (if minus then -(n : Int) else n)) rest h := by
  have hp : n < 10 ^ 20 := by have : n ≤ 9223372036854775808 := by rcases hn with h | h <;> omega
                              omega
  obtain ⟨c, w, e, hc⟩ := digs_head 20 n hp (by omega)
  have hd := digs_dig 20 n
  have hv := digs_val 20 n hp
  rw [e] at hd hv ⊢
  unfold rdWord
  simp only
  rw [if_pos (hd c (by simp))]
  unfold rdNum
  rw [hv, if_pos, if_pos hn]
  rw [Bool.and_eq_true_iff]
  refine ⟨List.all_eq_true.2 hd, ?_⟩
  by_cases h48 : c = 48
  · obtain ⟨h1, h2⟩ := hc h48
    have : minus = false := by cases minus with
      | false => rfl
      | true => have := hm rfl; omega
    subst h2; simp [this]
  · simp [h48]
theorem rdSingle_num {n : Int} {rest : Str} {h : Bool} (hn : I64 n) (hs : Sep rest) : rdSingle (showInt n ++ rest) h = .ok (.num n) rest h := by
  unfold I64 at hn
  have hp : n.natAbs < 10 ^ 20 := by omega
  have hd := digs_dig 20 n.natAbs
  have hw : ∀ c ∈ digs 20 n.natAbs, wordB c = true := fun c hc => isDig_word (hd c hc)
  obtain ⟨t1, t2⟩ := tw_word hw hs
  unfold rdSingle showInt
  by_cases hneg : n < 0
  · rw [if_pos hneg]
    have : ¬ List.take 1 ((45 :: digs 20 n.natAbs) ++ rest) = [34] := by simp
    rw [if_neg this, if_pos (by simp)]
    simp only [List.cons_append, List.drop_succ_cons, List.drop_zero, t1, t2]
    rw [rdNum_ok (minus := true) (n := n.natAbs) (by by_cases hh : n.natAbs ≤ 9223372036854775807
                                                     · exact Or.inl hh
                                                     · exact Or.inr ⟨rfl, by omega⟩) (fun _ => by omega), if_pos rfl, show -((n.natAbs : Nat) : Int) = n by omega]
  · rw [if_neg hneg]
    obtain ⟨c, w, e, hc⟩ := digs_head 20 n.natAbs hp (by omega)
    have hcd := (isDig_i c).1 (hd c (by rw [e]; simp))
    have n34 : c ≠ 34 := fun h => by rw [h] at hcd; simp at hcd
    have n45 : c ≠ 45 := fun h => by rw [h] at hcd; simp at hcd
    rw [if_neg (by rw [e]; simpa using n34), if_neg (by rw [e]; simpa using n45), t1, t2, rdNum_ok (minus := false) (n := n.natAbs) (Or.inl (by omega)) (fun hh => by cases hh), if_neg (by simp), show ((n.natAbs : Nat) : Int) = n by omega]
theorem quoted_app {s r : Str} (h : TextOk s) : quoted (s ++ 34 :: r) = some (s, r) := by
  induction s with
  | nil => simp [quoted, textB]
  | cons c s ih =>
    have := ih fun d hd => h d (by simp [hd])
    obtain ⟨h1, h2, h3, h4⟩ := h c (by simp)
    simp only [List.cons_append, quoted]
    rw [if_pos (by simp [textB, h1, h2, h3]), if_neg h4, this]
theorem rdSingle_atom {s rest : Str} {h : Bool} (ha : AtomOk s) (hs : Sep rest) : rdSingle (s ++ rest) h = .ok (.atom s) rest h := by
  obtain ⟨⟨c, w, e, h1, h2⟩, h3, h4, h5⟩ := ha
  obtain ⟨t1, t2⟩ := tw_word h3 hs
  have hcw := (wordB_i c).2 (h3 c (by rw [e]; simp))
  have n34 : c ≠ 34 := fun h => by rw [h] at hcw; simp at hcw
  have n45 : c ≠ 45 := fun h => by rw [h] at hcw; simp at hcw
  unfold rdSingle
  rw [if_neg (by rw [e]; simpa using n34), if_neg (by rw [e]; simpa using n45), t1, t2]
  subst e
  unfold rdWord
  simp only
  have m1 : c :: w ≠ [110, 105, 108] := fun e => h5 (by rw [e]; simp [words])
  have m2 : c :: w ≠ [116, 114, 117, 101] := fun e => h5 (by rw [e]; simp [words])
  have m3 : c :: w ≠ [102, 97, 108, 115, 101] := fun e => h5 (by rw [e]; simp [words])
  rw [if_neg (fun h => h1 (by simpa [isDig] using h)), if_neg (by simp [h2]), if_neg m1, if_neg m2, if_neg m3, if_neg h5, if_neg (by omega)]
theorem rdSingle_word {w rest : Str} {h : Bool} {v : Val} (hw : (w = [110, 105, 108] ∧ v = .nil) ∨ (w = [116, 114, 117, 101] ∧ v = .truth true) ∨ (w = [102, 97, 108, 115, 101] ∧ v = .truth false)) (hs : Sep rest) : rdSingle (w ++ rest) h = .ok v rest h := by
  have hwd : ∀ c ∈ w, wordB c = true := by rcases hw with ⟨rfl, _⟩ | ⟨rfl, _⟩ | ⟨rfl, _⟩ <;> decide
  obtain ⟨t1, t2⟩ := tw_word hwd hs
  unfold rdSingle
  rw [t1, t2]
  rcases hw with ⟨rfl, rfl⟩ | ⟨rfl, rfl⟩ | ⟨rfl, rfl⟩ <;> simp [rdWord, isDig]
/-! ### What a shown value begins with -/
def headB (c : UInt8) : Bool := wordB c || c == 34 || c == 45 || c == 123 || c == 60 || c == 91
theorem show_head {v : Val} (hf : Fit v) : ∃ c s, showV v = c :: s ∧ headB c = true := by
  cases v with
  | nil => exact ⟨_, _, rfl, by decide⟩
  | truth b => cases b <;> exact ⟨_, _, rfl, by decide⟩
  | num n =>
    have hn : I64 n := hf
    unfold I64 at hn
    simp only [showV, showInt]
    split
    · exact ⟨_, _, rfl, by decide⟩
    · obtain ⟨c, w, e, _⟩ := digs_head 20 n.natAbs (by omega) (by omega)
      exact ⟨c, w, e, by unfold headB; rw [isDig_word (digs_dig 20 n.natAbs c (by rw [e]; simp))]; rfl⟩
  | text s => exact ⟨_, _, rfl, by decide⟩
  | atom s =>
    have ha : AtomOk s := hf
    obtain ⟨⟨c, w, e, _⟩, h3, _⟩ := ha
    exact ⟨c, w, e, by unfold headB; rw [h3 c (by rw [e]; simp)]; rfl⟩
  | set l h => exact ⟨_, _, rfl, by decide⟩
  | fn k v h =>
    simp only [showV]; split
    · exact ⟨_, _, rfl, by decide⟩
    · exact ⟨_, _, rfl, by decide⟩
theorem head_space {c : UInt8} (h : headB c = true) : spaceB c = false ∧ c ≠ 125 ∧ c ≠ 62 ∧ c ≠ 93 := by
  have : ∀ c : UInt8, headB c = true → spaceB c = false ∧ c ≠ 125 ∧ c ≠ 62 ∧ c ≠ 93 := by
    intro c h
    have e : ∀ k : UInt8, headB k = false → c ≠ k := fun k hk e => by rw [e, hk] at h; cases h
    refine ⟨?_, e _ (by decide), e _ (by decide), e _ (by decide)⟩
    simp [spaceB, e 32 (by decide), e 9 (by decide), e 10 (by decide)]
  exact this c h
theorem skip_head {c : UInt8} {s : Str} (h : spaceB c = false) : skipS (c :: s) = c :: s := by simp [skipS, h]
theorem skip_sp {s : Str} : skipS (32 :: s) = skipS s := by simp [skipS, spaceB]
theorem takeS_hit {sign r : Str} (h : skipS (sign ++ r) = sign ++ r) : takeS sign (sign ++ r) = (true, r) := by
  unfold takeS; rw [h, if_pos (by simp)]; simp
theorem takeS_miss {sign : Str} {c d : UInt8} {s t : Str} (h : spaceB c = false) (hs : sign = d :: t) (hne : c ≠ d) : takeS sign (c :: s) = (false, c :: s) := by
  unfold takeS; rw [skip_head h, if_neg]
  rw [hs]; simp; intro e; exact absurd e hne
theorem rdV_sp {f : Nat} {s : Str} {deep : Int} {h : Bool} : rdV (f + 1) (32 :: s) deep h = rdV (f + 1) s deep h := by
  unfold rdV; rw [skip_sp]
section
variable {α : Type} {one : Str → Bool → RO α} {sh : α → Str} {last : Str}
theorem rdMore_show {c : UInt8} {t : Str} (hl : last = c :: t) (hc : spaceB c = false) (hc2 : c ≠ 44) (hc3 : wordB c = false) {h : Bool} {rest : Str} :
    ∀ {l : List α} {n : Nat} {acc : List α}, (∀ a ∈ l, ∀ r, Sep r → one (32 :: (sh a ++ r)) h = .ok a r h) → l.length < n → rdMore one last n acc (restS (l.map sh) ++ (last ++ rest)) h = .ok (acc ++ l) rest h
  | [], n, acc, _, hn => by
    obtain ⟨n, rfl⟩ : ∃ m, n = m + 1 := ⟨n - 1, by simp at hn; omega⟩
    unfold rdMore
    simp only [List.map_nil, restS, List.nil_append]
    have e1 : takeS [44] (last ++ rest) = (false, last ++ rest) := by rw [hl]; exact takeS_miss hc rfl hc2
    have e2 : takeS last (last ++ rest) = (true, rest) := takeS_hit (by rw [hl]; exact skip_head hc)
    rw [e1]; simp only; rw [e2]; simp
  | a :: l, n, acc, ho, hn => by
    obtain ⟨n, rfl⟩ : ∃ m, n = m + 1 := ⟨n - 1, by simp at hn; omega⟩
    unfold rdMore
    have e0 : restS ((a :: l).map sh) ++ (last ++ rest) = [44] ++ (32 :: (sh a ++ (restS (l.map sh) ++ (last ++ rest)))) := by simp [restS]
    rw [e0, takeS_hit (by exact skip_head (by decide))]
    simp only
    have sep : Sep (restS (l.map sh) ++ (last ++ rest)) := by
      cases l with
      | nil => simp only [List.map_nil, restS, List.nil_append, hl]; exact Sep.mk hc3
      | cons b l => simp only [List.map_cons, restS, List.cons_append]; exact Sep.mk (by decide)
    rw [ho a (by simp) _ sep]
    simp only
    rw [rdMore_show hl hc hc2 hc3 (fun b hb => ho b (by simp [hb])) (by simp at hn; omega)]
    simp
theorem rdFirst_show {c : UInt8} {t : Str} (hl : last = c :: t) (hc : spaceB c = false) (hc2 : c ≠ 44) (hc3 : wordB c = false) {h : Bool} {rest : Str} {a : α} {l : List α}
    (ho : ∀ b ∈ a :: l, ∀ r, Sep r → one (sh b ++ r) h = .ok b r h ∧ one (32 :: (sh b ++ r)) h = .ok b r h) : rdFirst one last (joinS ((a :: l).map sh) ++ (last ++ rest)) h = .ok (a :: l) rest h := by
  unfold rdFirst
  have e0 : joinS ((a :: l).map sh) ++ (last ++ rest) = sh a ++ (restS (l.map sh) ++ (last ++ rest)) := by simp [joinS]
  have sep : Sep (restS (l.map sh) ++ (last ++ rest)) := by
    cases l with
    | nil => simp only [List.map_nil, restS, List.nil_append, hl]; exact Sep.mk hc3
    | cons b l => simp only [List.map_cons, restS, List.cons_append]; exact Sep.mk (by decide)
  rw [e0, (ho a (by simp) _ sep).1]
  simp only
  rw [rdMore_show hl hc hc2 hc3 (fun b hb r hr => (ho b (by simp [hb]) r hr).2) (by have := restS_len (l.map sh); simp at this ⊢; omega)]
  simp
end
theorem seqK_nums : ∀ {k : List Val} {j : Int}, seqK j k = true → k = (List.range k.length).map fun i : Nat => Val.num (j + i)
  | [], j, _ => rfl
  | a :: k, j, h => by
    cases a <;> simp only [seqK, Bool.and_eq_true, decide_eq_true_eq, Bool.false_eq_true] at h
    obtain ⟨rfl, h⟩ := h
    have := seqK_nums h
    simp only [List.length_cons, List.range_succ_eq_map, List.map_cons, List.map_map]
    conv => lhs; rw [this]
    simp; intro i hi; omega
section
variable {f : Nat} {s r' : Str} {deep : Int} {h h' : Bool} (hsk : skipS s = s)
include hsk
theorem rdV_set {l : List Val} (h1 : s.take 1 = [123]) (e : rdList (fun r h => rdV f r (deep + 1) h) [125] s deep h = .ok l r' h') : rdV (f + 1) s deep h = weigh (setV l) r' h' := by
  unfold rdV; simp only [hsk]; rw [if_pos h1, e]
theorem rdV_seq {l : List Val} (h1 : s.take 1 ≠ [123]) (h2 : s.take 2 = [60, 60]) (e : rdList (fun r h => rdV f r (deep + 1) h) [62, 62] s deep h = .ok l r' h') : rdV (f + 1) s deep h = weigh (seqV l) r' h' := by
  unfold rdV; simp only [hsk]; rw [if_neg h1, if_pos h2, e]
theorem rdV_fn {l : List VP} (h1 : s.take 1 ≠ [123]) (h2 : s.take 2 ≠ [60, 60]) (h3 : s.take 1 = [91]) (e : rdPairs (fun r h => rdV f r (deep + 1) h) s deep h = .ok l r' h') : rdV (f + 1) s deep h = weigh (funV (l.map (·.1)) (l.map (·.2))) r' h' := by
  unfold rdV; simp only [hsk]; rw [if_neg h1, if_neg h2, if_pos h3, e]
theorem rdV_single (h1 : s.take 1 ≠ [123]) (h2 : s.take 2 ≠ [60, 60]) (h3 : s.take 1 ≠ [91]) : rdV (f + 1) s deep h = rdSingle s h := by
  unfold rdV; simp only [hsk]; rw [if_neg h1, if_neg h2, if_neg h3]
end
theorem take2_ne {c d : UInt8} {s : Str} (h : c ≠ d) {e : UInt8} : (c :: s).take 2 ≠ [d, e] := fun hh => by
  cases s with
  | nil => simp at hh
  | cons x s => simp at hh; exact h hh.1
theorem rd_show : ∀ (f : Nat) {v : Val} {deep : Int} {h : Bool} {rest : Str}, Fit v → dpV v < f → (dpV v : Int) + deep ≤ 24 → Sep rest → rdV f (showV v ++ rest) deep h = .ok v rest h
  | 0, v, deep, h, rest, _, hd, _, _ => absurd hd (by omega)
  | f + 1, v, deep, h, rest, hf, hd, hdp, hs => by
    obtain ⟨c, s, e, hc⟩ := show_head hf
    have hsk : skipS (showV v ++ rest) = showV v ++ rest := by rw [e]; exact skip_head (head_space hc).1
    have one : ∀ {l : List Val}, (∀ a ∈ l, Fit a) → dpL l < f → (dpL l : Int) + (deep + 1) ≤ 24 → ∀ b ∈ l, ∀ r, Sep r → rdV f (showV b ++ r) (deep + 1) h = .ok b r h ∧ rdV f (32 :: (showV b ++ r)) (deep + 1) h = .ok b r h := fun {l} hfl h1 h2 b hb r hr => by
      have hb2 := dpL_le.1 (Nat.le_refl (dpL l)) b hb
      have e1 := rd_show f (h := h) (deep := deep + 1) (rest := r) (hfl b hb) (by omega) (by omega) hr
      refine ⟨e1, ?_⟩
      obtain ⟨g, rfl⟩ : ∃ g, f = g + 1 := ⟨f - 1, by omega⟩
      rw [rdV_sp]; exact e1
    cases v with
    | nil =>
      have := rdSingle_word (w := [110, 105, 108]) (h := h) (Or.inl ⟨rfl, rfl⟩) hs
      rw [rdV_single hsk (by simp [showV]) (by simp [showV]) (by simp [showV])]; exact this
    | truth b =>
      cases b
      · have := rdSingle_word (w := [102, 97, 108, 115, 101]) (h := h) (Or.inr (Or.inr ⟨rfl, rfl⟩)) hs
        rw [rdV_single hsk (by simp [showV]) (by simp [showV]) (by simp [showV])]; exact this
      · have := rdSingle_word (w := [116, 114, 117, 101]) (h := h) (Or.inr (Or.inl ⟨rfl, rfl⟩)) hs
        rw [rdV_single hsk (by simp [showV]) (by simp [showV]) (by simp [showV])]; exact this
    | num n =>
      have := rdSingle_num (h := h) (n := n) hf hs
      have hn : c ≠ 123 ∧ c ≠ 60 ∧ c ≠ 91 := by
        have hn : I64 n := hf
        unfold I64 at hn
        simp only [showV, showInt] at e
        split at e
        · injection e with e1 _; subst e1; decide
        · obtain ⟨c', w, e', _⟩ := digs_head 20 n.natAbs (by omega) (by omega)
          have hdg := digs_dig 20 n.natAbs c (by rw [e]; simp)
          have := (isDig_i c).1 hdg
          refine ⟨?_, ?_, ?_⟩ <;> (rintro rfl; simp at this)
      rw [rdV_single hsk (by rw [e]; simpa using hn.1) (by rw [e]; exact take2_ne hn.2.1) (by rw [e]; simpa using hn.2.2)]; exact this
    | text s' =>
      have : TextOk s' := hf
      rw [rdV_single hsk (by simp [showV]) (by simp [showV]) (by simp [showV])]
      have er : showV (.text s') ++ rest = 34 :: (s' ++ 34 :: rest) := by simp [showV]
      rw [er]; unfold rdSingle
      rw [if_pos (by simp), show (34 :: (s' ++ 34 :: rest)).drop 1 = s' ++ 34 :: rest from rfl, quoted_app this]
    | atom s' =>
      have ha : AtomOk s' := hf
      have := rdSingle_atom (h := h) ha hs
      have e2 : s' = c :: s := e
      have hw := (wordB_i c).2 (ha.2.1 c (by rw [e2]; simp))
      have hn : c ≠ 123 ∧ c ≠ 60 ∧ c ≠ 91 := by
        refine ⟨?_, ?_, ?_⟩ <;> (rintro rfl; simp at hw)
      rw [rdV_single hsk (by rw [e]; simpa using hn.1) (by rw [e]; exact take2_ne hn.2.1) (by rw [e]; simpa using hn.2.2)]; exact this
    | set l w =>
      obtain ⟨f1, f2, f3, f4⟩ := hf
      simp only [dpV] at hd hdp
      have er : showV (.set l w) ++ rest = [123] ++ (joinS (showLs l) ++ ([125] ++ rest)) := by simp [showV]
      rw [er] at hsk ⊢
      have hl : rdList (fun r h => rdV f r (deep + 1) h) [125] ([123] ++ (joinS (showLs l) ++ ([125] ++ rest))) deep h = .ok l rest h := by
        unfold rdList
        rw [if_neg (by omega)]
        have ed : ([123] ++ (joinS (showLs l) ++ ([125] ++ rest))).drop ([125] : Str).length = joinS (showLs l) ++ ([125] ++ rest) := rfl
        rw [ed]
        cases l with
        | nil => simp only [showLs, joinS, List.nil_append]; rw [takeS_hit (skip_head (by decide))]
        | cons a l =>
          obtain ⟨c', s', e', hc'⟩ := show_head f4.1
          have : takeS [125] (joinS (showLs (a :: l)) ++ ([125] ++ rest)) = (false, joinS (showLs (a :: l)) ++ ([125] ++ rest)) := by
            simp only [showLs, joinS, e', List.cons_append]
            exact takeS_miss (head_space hc').1 rfl (head_space hc').2.1
          rw [this]
          simp only
          rw [showLs_map]
          exact rdFirst_show (sh := showV) rfl (by decide) (by decide) (by decide) (one (FitL_iff.1 f4) (by omega) (by omega))
      rw [rdV_set hsk (by simp) hl]
      simp only [weigh]
      have : setV l = .set l w := by
        unfold setV setA; rw [canon_of_asc f4.hv f3, if_pos (by omega), ← f1]
      rw [this]; simp [Val.isNil]
    | fn k v w =>
      obtain ⟨f1, f2, f3, f4, f5, f6⟩ := hf
      simp only [dpV] at hd hdp
      by_cases hq : seqK 1 k = true
      · have er : showV (.fn k v w) ++ rest = [60, 60] ++ (joinS (showLs v) ++ ([62, 62] ++ rest)) := by simp [showV, hq]
        rw [er] at hsk ⊢
        have hl : rdList (fun r h => rdV f r (deep + 1) h) [62, 62] ([60, 60] ++ (joinS (showLs v) ++ ([62, 62] ++ rest))) deep h = .ok v rest h := by
          unfold rdList
          rw [if_neg (by omega)]
          have ed : ([60, 60] ++ (joinS (showLs v) ++ ([62, 62] ++ rest))).drop ([62, 62] : Str).length = joinS (showLs v) ++ ([62, 62] ++ rest) := rfl
          rw [ed]
          cases v with
          | nil => simp only [showLs, joinS, List.nil_append]; rw [takeS_hit (skip_head (by decide))]
          | cons a l =>
            obtain ⟨c', s', e', hc'⟩ := show_head f6.1
            have : takeS [62, 62] (joinS (showLs (a :: l)) ++ ([62, 62] ++ rest)) = (false, joinS (showLs (a :: l)) ++ ([62, 62] ++ rest)) := by
              simp only [showLs, joinS, e', List.cons_append]
              exact takeS_miss (head_space hc').1 rfl (head_space hc').2.2.1
            rw [this]
            simp only
            rw [showLs_map]
            exact rdFirst_show (sh := showV) rfl (by decide) (by decide) (by decide) (one (FitL_iff.1 f6) (by omega) (by omega))
        rw [rdV_seq hsk (by simp) (by simp) hl]
        simp only [weigh]
        have hk : k = nums v.length := by
          have := seqK_nums hq
          rw [this, nums, f3]
          exact List.map_congr_left fun i _ => by congr 1; omega
        have : seqV v = .fn k v w := by
          unfold seqV funA; rw [← hk, if_pos (by omega), ← f1]
        rw [this]; simp [Val.isNil]
      · have er : showV (.fn k v w) ++ rest = [91] ++ (joinS (pairS (showLs k) (showLs v)) ++ ([93] ++ rest)) := by simp [showV, hq]
        rw [er] at hsk ⊢
        have hz : pairS (showLs k) (showLs v) = (k.zip v).map fun p => showV p.1 ++ 58 :: 32 :: showV p.2 := by
          rw [showLs_map, showLs_map, pairS, List.zipWith_map, List.zip, List.map_zipWith]
        have o1 := one (FitL_iff.1 f5) (by omega) (by omega)
        have o2 := one (FitL_iff.1 f6) (by omega) (by omega)
        have hl : rdPairs (fun r h => rdV f r (deep + 1) h) ([91] ++ (joinS (pairS (showLs k) (showLs v)) ++ ([93] ++ rest))) deep h = .ok (k.zip v) rest h := by
          unfold rdPairs
          rw [if_neg (by omega)]
          have ed : ([91] ++ (joinS (pairS (showLs k) (showLs v)) ++ ([93] ++ rest))).drop 1 = joinS (pairS (showLs k) (showLs v)) ++ ([93] ++ rest) := rfl
          rw [ed, hz]
          have op : ∀ p ∈ k.zip v, ∀ r, Sep r → rdPair (fun r h => rdV f r (deep + 1) h) ((showV p.1 ++ 58 :: 32 :: showV p.2) ++ r) h = .ok p r h ∧ rdPair (fun r h => rdV f r (deep + 1) h) (32 :: ((showV p.1 ++ 58 :: 32 :: showV p.2) ++ r)) h = .ok p r h := fun p hp r hr => by
            have m := List.of_mem_zip hp
            have e1 : (showV p.1 ++ 58 :: 32 :: showV p.2) ++ r = showV p.1 ++ ([58] ++ (32 :: (showV p.2 ++ r))) := by simp
            have q1 := o1 p.1 m.1 ([58] ++ (32 :: (showV p.2 ++ r))) (Sep.mk (by decide))
            have q2 := o2 p.2 m.2 r hr
            rw [e1]
            constructor
            · unfold rdPair
              simp only [q1.1]
              rw [takeS_hit (skip_head (by decide))]
              simp only [q2.2]
            · unfold rdPair
              simp only [q1.2]
              rw [takeS_hit (skip_head (by decide))]
              simp only [q2.2]
          cases hkz : k.zip v with
          | nil =>
            exfalso
            have : k = [] := by
              cases k with
              | nil => rfl
              | cons a k =>
                cases v with
                | nil => simp at f3
                | cons b v => simp at hkz
            subst this; simp [seqK] at hq
          | cons p ps =>
            rw [hkz] at op
            exact rdFirst_show rfl (by decide) (by decide) (by decide) op
        rw [rdV_fn hsk (by simp) (by exact take2_ne (by decide)) (by simp) hl]
        simp only [weigh]
        have : funV ((k.zip v).map (·.1)) ((k.zip v).map (·.2)) = .fn k v w := by
          rw [zip_fst f3, zip_snd f3, funV_asc f5.hv f4 f3]
          unfold funA; rw [if_pos (by omega), ← f1]
        rw [this]; simp [Val.isNil]
/-- What is shown alike is the same. -/
theorem show_inj {v w : Val} (hv : Fit v) (hw : Fit w) (dv : dpV v ≤ 24) (dw : dpV w ≤ 24) (h : showV v = showV w) : v = w := by
  have e1 := rd_show 26 (h := false) (deep := 0) hv (by omega) (by omega) Sep.nil
  have e2 := rd_show 26 (h := false) (deep := 0) hw (by omega) (by omega) Sep.nil
  rw [h, e2] at e1
  injection e1 with e1; exact e1.symm
theorem readV_show {v : Val} (hv : Fit v) (dv : dpV v ≤ 24) (hl : (showV v).length ≤ 4000) : readV (showV v) = (v, 0, none) := by
  have e1 := rd_show 26 (h := false) (deep := 0) hv (by omega) (by omega) Sep.nil
  rw [List.append_nil] at e1
  unfold readV
  rw [if_neg (by omega), e1]
  simp [skipS]
/-- What reading gives is fit. -/
theorem readV_fit (t : Str) : Fit (readV t).1 ∧ dpV (readV t).1 ≤ 24 ∧ (showV (readV t).1).length ≤ 100000 := by
  have nilc : Fit .nil ∧ dpV .nil ≤ 24 ∧ (showV .nil).length ≤ 100000 := ⟨trivial, by simp [dpV], by simp [showV]⟩
  unfold readV
  split
  · exact nilc
  · rename_i hl
    split
    · exact nilc
    · rename_i v r h e
      have := rdV_post (by omega) e
      obtain ⟨p, hp, h1, h2⟩ := this.took
      split
      · exact nilc
      · split
        · exact nilc
        · refine ⟨this.fit, by have := this.deep; show dpV v ≤ 24; omega, ?_⟩
          have hpl := congrArg List.length hp
          simp at hpl
          show shl v ≤ _
          omega
end Go.Vc
