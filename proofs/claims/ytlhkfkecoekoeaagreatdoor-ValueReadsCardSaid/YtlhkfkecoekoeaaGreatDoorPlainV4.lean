/- Sets in plain words: the canonical list of a set, and that the program makes it. No program in sight. -/
import Derived.Test.YtlhkfkecoekoeaaGreatDoorPlainV3
set_option linter.unusedVariables false
set_option linter.unusedSimpArgs false
namespace Go.Vc
def wordB (c : UInt8) : Bool := (97 ≤ c && c ≤ 122) || (65 ≤ c && c ≤ 90) || (48 ≤ c && c ≤ 57) || c == 95
def words : List Str := [[109, 111, 100, 117, 108, 101], [99, 111, 110, 115, 116, 97, 110, 116], [97, 116, 111, 109, 115], [115, 121, 109, 109, 101, 116, 114, 105, 99], [118, 97, 114, 105, 97, 98, 108, 101], [100, 101, 102, 105, 110, 101], [105, 110, 105, 116], [97, 99, 116, 105, 111, 110], [102, 97, 105, 114], [119, 101, 97, 107], [115, 116, 114, 111, 110, 103], [105, 110, 118, 97, 114, 105, 97, 110, 116], [112, 114, 111, 112, 101, 114, 116, 121], [97, 110, 100], [111, 114], [110, 111, 116], [105, 109, 112, 108, 105, 101, 115], [105, 102, 102], [105, 110], [117, 110, 105, 111, 110], [105, 110, 116, 101, 114], [109, 105, 110, 117, 115], [115, 117, 98, 115, 101, 116], [112, 111, 119, 101, 114, 115, 101, 116], [102, 108, 97, 116, 116, 101, 110], [100, 111, 109, 97, 105, 110], [117, 110, 99, 104, 97, 110, 103, 101, 100], [101, 110, 97, 98, 108, 101, 100], [97, 108, 119, 97, 121, 115], [101, 118, 101, 110, 116, 117, 97, 108, 108, 121], [117, 110, 116, 105, 108], [108, 101, 97, 100, 115, 116, 111], [99, 104, 111, 111, 115, 101], [97, 108, 108], [115, 111, 109, 101], [101, 97, 99, 104], [116, 104, 111, 115, 101], [102, 117, 110], [105, 102], [116, 104, 101, 110], [101, 108, 115, 101], [108, 101, 116], [110, 105, 108], [116, 114, 117, 101], [102, 97, 108, 115, 101], [115, 105, 122, 101], [108, 101, 110], [104, 101, 97, 100], [116, 97, 105, 108], [97, 112, 112, 101, 110, 100], [118, 97, 108, 117, 101, 115], [115, 101, 113, 115]]
def AtomOk (s : Str) : Prop := (∃ c r, s = c :: r ∧ ¬ (48 ≤ c ∧ c ≤ 57) ∧ c ≠ 95) ∧ (∀ c ∈ s, wordB c = true) ∧ s.length ≤ 16 ∧ s ∉ words
def TextOk (s : Str) : Prop := ∀ c ∈ s, 32 ≤ c ∧ c ≤ 126 ∧ c ≠ 92 ∧ c ≠ 34
def Asc (l : List Val) : Prop := l.Pairwise fun a b => cmpV a b < 0
mutual
def Fit : Val → Prop
  | .nil => True
  | .truth _ => True
  | .num n => I64 n
  | .text s => TextOk s
  | .atom s => AtomOk s
  | .set l h => h = 1 + wtL l ∧ h ≤ 1024 ∧ Asc l ∧ FitL l
  | .fn k v h => h = 1 + wtL k + wtL v ∧ h ≤ 1024 ∧ k.length = v.length ∧ Asc k ∧ FitL k ∧ FitL v
def FitL : List Val → Prop
  | [] => True
  | a :: l => Fit a ∧ FitL l
end
theorem FitL_iff : ∀ {l : List Val}, FitL l ↔ ∀ a ∈ l, Fit a
  | [] => by simp [FitL]
  | a :: l => by simp [FitL, FitL_iff]
mutual
theorem Fit.hv : ∀ {v : Val}, Fit v → Hv v
  | .nil, _ => trivial
  | .truth _, _ => trivial
  | .num _, _ => trivial
  | .text _, _ => trivial
  | .atom _, _ => trivial
  | .set l h, g => ⟨g.1, g.2.2.2.hv⟩
  | .fn k v h, g => ⟨g.1, g.2.2.2.2.1.hv, g.2.2.2.2.2.hv⟩
theorem FitL.hv : ∀ {l : List Val}, FitL l → HvL l
  | [], _ => trivial
  | a :: l, g => ⟨g.1.hv, g.2.hv⟩
end
mutual
theorem Fit.ev : ∀ {v : Val}, Fit v → Ev v
  | .nil, _ => trivial
  | .truth _, _ => trivial
  | .num _, g => g
  | .text _, _ => trivial
  | .atom _, _ => trivial
  | .set l h, g => g.2.2.2.ev
  | .fn k v h, g => ⟨g.2.2.1, g.2.2.2.2.1.ev, g.2.2.2.2.2.ev⟩
theorem FitL.ev : ∀ {l : List Val}, FitL l → EvL l
  | [], _ => trivial
  | a :: l, g => ⟨g.1.ev, g.2.ev⟩
end
mutual
theorem Hv.pos : ∀ {v : Val}, Hv v → 1 ≤ v.weightOf
  | .nil, _ => by simp [Val.weightOf]
  | .truth _, _ => by simp [Val.weightOf]
  | .num _, _ => by simp [Val.weightOf]
  | .text _, _ => by simp [Val.weightOf]
  | .atom _, _ => by simp [Val.weightOf]
  | .set l h, g => by have := HvL.nn g.2; have := g.1; simp [Val.weightOf]; omega
  | .fn k v h, g => by have := HvL.nn g.2.1; have := HvL.nn g.2.2; have := g.1; simp [Val.weightOf]; omega
theorem HvL.nn : ∀ {l : List Val}, HvL l → (l.length : Int) ≤ wtL l
  | [], _ => by simp [wtL]
  | a :: l, g => by have := Hv.pos g.1; have := HvL.nn g.2; simp [wtL]; omega
end
theorem Fit.pos {v : Val} (g : Fit v) : 1 ≤ v.weightOf := g.hv.pos
theorem Fit.le {v : Val} (g : Fit v) : v.weightOf ≤ 1024 := by
  cases v <;> simp [Val.weightOf]
  · exact g.2.1
  · exact g.2.1
theorem wtL_app : ∀ a b, wtL (a ++ b) = wtL a + wtL b
  | [], b => by simp [wtL]
  | x :: a, b => by simp [wtL, wtL_app a b]; omega
def insU (a : Val) : List Val → List Val
  | [] => [a]
  | b :: l => if cmpV a b < 0 then a :: b :: l else if cmpV a b = 0 then b :: l else b :: insU a l
def canon (l : List Val) : List Val := l.foldl (fun s a => insU a s) []
def setA (s : List Val) : Val := if 1 + wtL s ≤ 1024 then .set s (1 + wtL s) else .nil
def setV (l : List Val) : Val := setA (canon l)
theorem insU_mem {a : Val} (ha : Hv a) : ∀ {l : List Val}, HvL l → ∀ x, x ∈ insU a l ↔ x = a ∨ x ∈ l
  | [], _, x => by simp [insU]
  | b :: l, h, x => by
    simp only [insU]; split
    · simp
    · split
      · rename_i h0; have := cmpV_eq ha h.1 h0; subst this; simp
      · simp [insU_mem ha h.2]; constructor
        · rintro (h | h | h) <;> simp [h]
        · rintro (h | h | h) <;> simp [h]
theorem insU_hv {a : Val} (ha : Hv a) {l : List Val} (h : HvL l) : HvL (insU a l) :=
  HvL_iff.2 fun x hx => by
    rcases (insU_mem ha h x).1 hx with rfl | hx
    · exact ha
    · exact HvL_iff.1 h _ hx
theorem insU_asc {a : Val} (ha : Hv a) : ∀ {l : List Val}, HvL l → Asc l → Asc (insU a l)
  | [], _, _ => by simp [insU, Asc]
  | b :: l, h, hs => by
    have hs' := List.pairwise_cons.1 hs
    simp only [insU]; split
    · rename_i h1
      exact List.pairwise_cons.2 ⟨fun x hx => by
        rcases List.mem_cons.1 hx with rfl | hx
        · exact h1
        · exact cmpV_trans h1 (hs'.1 x hx), hs⟩
    · rename_i h1
      split
      · exact hs
      · rename_i h2
        have h3 : cmpV b a < 0 := by rw [cmpV_neg a b]; omega
        refine List.pairwise_cons.2 ⟨fun x hx => ?_, insU_asc ha h.2 hs'.2⟩
        rcases (insU_mem ha h.2 x).1 hx with rfl | hx
        · exact h3
        · exact hs'.1 x hx
theorem canon_from {l : List Val} (hl : HvL l) : ∀ {s : List Val}, HvL s → Asc s → HvL (l.foldl (fun s a => insU a s) s) ∧ Asc (l.foldl (fun s a => insU a s) s) ∧ ∀ x, x ∈ l.foldl (fun s a => insU a s) s ↔ x ∈ s ∨ x ∈ l := by
  induction l with
  | nil => intro s h1 h2; exact ⟨h1, h2, by simp⟩
  | cons a l ih =>
    intro s h1 h2
    obtain ⟨h3, h4, h5⟩ := ih hl.2 (insU_hv hl.1 h1) (insU_asc hl.1 h1 h2)
    refine ⟨h3, h4, fun x => (h5 x).trans ?_⟩
    rw [insU_mem hl.1 h1]; simp; constructor
    · rintro ((h | h) | h) <;> simp [h]
    · rintro (h | h | h) <;> simp [h]
theorem canon_asc {l : List Val} (hl : HvL l) : Asc (canon l) := (canon_from hl (s := []) trivial List.Pairwise.nil).2.1
theorem canon_mem {l : List Val} (hl : HvL l) (x : Val) : x ∈ canon l ↔ x ∈ l := ((canon_from hl (s := []) trivial List.Pairwise.nil).2.2 x).trans (by simp)
theorem asc_irr {a : Val} : ¬ cmpV a a < 0 := by rw [cmpV_refl]; omega
theorem asc_asym {a b : Val} (h : cmpV a b < 0) : ¬ cmpV b a < 0 := by rw [cmpV_neg a b]; omega
theorem asc_ext : ∀ {x y : List Val}, Asc x → Asc y → (∀ a, a ∈ x ↔ a ∈ y) → x = y
  | [], [], _, _, _ => rfl
  | [], b :: y, _, _, h => absurd ((h b).2 (by simp)) (by simp)
  | a :: x, [], _, _, h => absurd ((h a).1 (by simp)) (by simp)
  | a :: x, b :: y, hx, hy, h => by
    have hx' := List.pairwise_cons.1 hx
    have hy' := List.pairwise_cons.1 hy
    have hab : a = b := by
      rcases List.mem_cons.1 ((h a).1 (by simp)) with e | m1
      · exact e
      · rcases List.mem_cons.1 ((h b).2 (by simp)) with e | m2
        · exact e.symm
        · exact absurd (hx'.1 b m2) (asc_asym (hy'.1 a m1))
    subst hab
    rw [asc_ext hx'.2 hy'.2 fun c => ⟨fun hc => ?_, fun hc => ?_⟩]
    · rcases List.mem_cons.1 ((h c).1 (by simp [hc])) with e | m
      · subst e; exact absurd (hx'.1 c hc) asc_irr
      · exact m
    · rcases List.mem_cons.1 ((h c).2 (by simp [hc])) with e | m
      · subst e; exact absurd (hy'.1 c hc) asc_irr
      · exact m
theorem SetOf1_ok {a b : Val} {Q : Bool → Prop} (ha : Hv a) (hb : Hv b) (h : Q (decide (cmpV a b = 0))) : V_SetOf1 a b Q := ⟨a.sz + 1, Compare_ok _ (by omega) ha hb h⟩
theorem ascSet_ok {l : List Val} {Q : Val → Prop} (hl : FitL l) (h : Q (setA l)) : V_ascSet l Q := by
  intro hL
  unfold Len at hL
  have pos : ∀ k : Nat, 0 ≤ wtL (l.drop k) := fun k => by
    have := HvL.nn (l := l.drop k) (HvL_iff.2 fun a ha => (FitL_iff.1 hl a (List.mem_of_mem_drop ha)).hv); omega
  have tot : ∀ k : Nat, wtL l = wtL (l.take k) + wtL (l.drop k) := fun k => by rw [← wtL_app, List.take_append_drop]
  refine ⟨fun s => 0 ≤ s.2 ∧ s.2 ≤ l.length ∧ s.1 = 1 + wtL (l.take s.2.toNat) ∧ s.1 ≤ 1024 ∧ 1 ≤ s.1, fun s => (l.length - s.2).toNat, ⟨by simp, by simp, by simp [wtL], by simp, by simp⟩, ?_⟩
  rintro ⟨w, k⟩ ⟨k0, k1, e, w1, w2⟩
  simp only at k0 k1 e w1 w2
  refine ⟨fun hk => ⟨⟨k0, hk⟩, weight_ok ?_⟩, fun hk => ?_⟩
  · have g := FitL_iff.1 hl _ (ix_mem k0 hk)
    have g1 := g.pos; have g2 := g.le
    have e2 := tot (k + 1).toNat
    have e3 := pos (k + 1).toNat
    have e4 : wtL (l.take (k + 1).toNat) = wtL (l.take k.toNat) + (ix l k).weightOf := by rw [take_ix k0 hk, wtL_app]; simp [wtL]
    refine ⟨by unfold I64; omega, fun hn => ?_, fun hn => ⟨by unfold I64; omega, ⟨by omega, by show k + 1 ≤ _; omega, by show _ = 1 + wtL (l.take (k + 1).toNat); rw [e4]; omega, by show _ ≤ (1024 : Int); omega, by show (1 : Int) ≤ _; omega⟩, by show (_ : Int).toNat < (_ : Int).toNat; omega⟩⟩
    unfold setA at h; rw [if_neg (by omega)] at h; exact h
  · have : k = l.length := by omega
    subst this
    rw [List.take_of_length_le (by simp)] at e
    unfold setA at h; rw [if_pos (by omega)] at h; rw [e]; exact h
structure Cmp (y z : List Val) (p : Nat) : Prop where
  asc : Asc z
  mem : ∀ a, a ∈ z ↔ a ∈ y.take p
  pos : 1 ≤ p
  le : p ≤ y.length
theorem mem_take {α : Type} {l : List α} {p : Nat} {a : α} : a ∈ l.take p ↔ ∃ i : Nat, i < p ∧ l[i]? = some a := by
  rw [List.mem_iff_getElem?]; constructor
  · rintro ⟨i, hi⟩
    by_cases h : i < p
    · exact ⟨i, h, by rw [List.getElem?_take_of_lt h] at hi; exact hi⟩
    · rw [List.getElem?_take, if_neg h] at hi; cases hi
  · rintro ⟨i, h, hi⟩; exact ⟨i, by rw [List.getElem?_take_of_lt h]; exact hi⟩
theorem Cmp.le_last {y z : List Val} {p : Nat} (hv : HvL y) (hy : y.Pairwise fun a b => ¬ cmpV b a < 0) (h : Cmp y z p) {a : Val} (ha : a ∈ z) : cmpV a (ix y ((p : Int) - 1)) ≤ 0 := by
  obtain ⟨i, hi, e⟩ := mem_take.1 ((h.mem a).1 ha)
  have hp := h.pos; have hle := h.le
  have e2 := ix_get (xs := y) (i := (p : Int) - 1) (by omega) (by omega)
  have : ((p : Int) - 1).toNat = p - 1 := by omega
  rw [this] at e2
  obtain ⟨i1, rfl⟩ := List.getElem?_eq_some_iff.1 e
  obtain ⟨p1, e3⟩ := List.getElem?_eq_some_iff.1 e2
  rw [← e3]
  by_cases hip : i = p - 1
  · subst hip; rw [cmpV_refl]; omega
  · have := List.pairwise_iff_getElem.1 hy i (p - 1) i1 p1 (by omega)
    rw [cmpV_neg y[i] y[p - 1]] at this; omega
theorem Cmp.step {y z : List Val} {p : Nat} (hv : HvL y) (hy : y.Pairwise fun a b => ¬ cmpV b a < 0) (h : Cmp y z p) (hp : p < y.length) :
    (cmpV (ix y p) (ix y ((p : Int) - 1)) = 0 → Cmp y z (p + 1)) ∧ (cmpV (ix y p) (ix y ((p : Int) - 1)) ≠ 0 → Cmp y (z ++ [ix y p]) (p + 1)) := by
  have h1 := h.pos
  have e : y.take (p + 1) = y.take p ++ [ix y p] := by have := take_ix (l := y) (i := (p : Int)) (by omega) (by omega); simpa using this
  have m1 : ix y ((p : Int) - 1) ∈ y.take p := mem_take.2 ⟨p - 1, by omega, by have := ix_get (xs := y) (i := (p : Int) - 1) (by omega) (by omega); rw [show ((p : Int) - 1).toNat = p - 1 by omega] at this; exact this⟩
  have v1 := HvL_iff.1 hv _ (ix_mem (l := y) (i := (p : Int)) (by omega) (by omega))
  have v2 := HvL_iff.1 hv _ (ix_mem (l := y) (i := (p : Int) - 1) (by omega) (by omega))
  have g1 := ix_get (xs := y) (i := (p : Int) - 1) (by omega) (by omega)
  have g2 := ix_get (xs := y) (i := (p : Int)) (by omega) (by omega)
  rw [show ((p : Int) - 1).toNat = p - 1 by omega] at g1
  rw [show ((p : Int)).toNat = p by omega] at g2
  obtain ⟨p1, g1⟩ := List.getElem?_eq_some_iff.1 g1
  obtain ⟨p2, g2⟩ := List.getElem?_eq_some_iff.1 g2
  have hle := List.pairwise_iff_getElem.1 hy (p - 1) p p1 p2 (by omega)
  rw [g1, g2] at hle
  constructor
  · intro h0
    have h0 := cmpV_eq v1 v2 h0
    refine ⟨h.asc, fun a => ?_, by omega, by omega⟩
    rw [h.mem, e]; simp only [List.mem_append, List.mem_singleton]
    constructor
    · exact Or.inl
    · rintro (h | rfl)
      · exact h
      · rw [h0]; exact m1
  · intro h0
    refine ⟨List.pairwise_append.2 ⟨h.asc, by simp, fun a ha b hb => ?_⟩, fun a => ?_, by omega, by omega⟩
    · rw [List.mem_singleton.1 hb]
      have h2 := h.le_last hv hy ha
      have h3 : cmpV (ix y ((p : Int) - 1)) (ix y p) < 0 := by
        have := cmpV_neg (ix y p) (ix y ((p : Int) - 1)); omega
      have h5 := cmpV_trans_le h2 (Int.le_of_lt h3)
      by_cases h4 : cmpV a (ix y p) = 0
      · exfalso
        have := cmpV_neg a (ix y p)
        have h6 : cmpV (ix y p) (ix y ((p : Int) - 1)) ≤ 0 := cmpV_trans_le (b := a) (by omega) h2
        have := cmpV_neg (ix y ((p : Int) - 1)) (ix y p)
        omega
      · omega
    · rw [e]; simp [h.mem]
theorem Cmp.start {y : List Val} (h : 1 ≤ y.length) : Cmp y (y.take 1) 1 := by
  refine ⟨?_, fun a => Iff.rfl, by omega, h⟩
  cases y with
  | nil => simp at h
  | cons a y => simp [Asc]
theorem CompactV_ok {y : List Val} {Q : List Val → Prop} (hv : HvL y) (hy : y.Pairwise fun a b => ¬ cmpV b a < 0) (h : ∀ z, Asc z → (∀ a, a ∈ z ↔ a ∈ y) → Q z) : V_CompactV y Q := by
  intro hL
  unfold Len at hL
  refine ⟨fun h2 => h y ?_ (fun a => Iff.rfl), fun h2 => ?_⟩
  · rcases y with _ | ⟨a, _ | ⟨b, l⟩⟩
    · exact List.Pairwise.nil
    · exact List.pairwise_singleton _ _
    · exact absurd h2 (by simp; omega)
  refine ⟨fun k => 1 ≤ k ∧ k ≤ y.length ∧ Cmp y (y.take k.toNat) k.toNat, fun k => (y.length - k).toNat, ⟨by simp, by omega, Cmp.start (by omega)⟩, ?_⟩
  show ∀ k : Int, _ → _
  rintro k ⟨k0, k1, hc⟩ _
  refine ⟨fun hk => ⟨⟨by omega, hk⟩, by unfold I64; omega, ⟨by omega, by omega⟩, ?_⟩, fun hk => ?_⟩
  · refine SetOf1_ok (HvL_iff.1 hv _ (ix_mem (by omega) (by omega))) (HvL_iff.1 hv _ (ix_mem (by omega) (by omega))) ?_
    have hst := hc.step hv hy (by omega)
    rw [show ((k.toNat : Nat) : Int) = k by omega] at hst
    refine ⟨fun he => ⟨⟨by omega, hk⟩, ?_⟩, fun he => ⟨by unfold I64; omega, ⟨by omega, by omega, ?_⟩, by show (_ : Int).toNat < (_ : Int).toNat; omega⟩⟩
    · have he : cmpV (ix y k) (ix y (k - 1)) = 0 := by simpa using he
      refine ⟨fun s => s.1.length = y.length ∧ 1 ≤ s.2.1 ∧ s.2.1 ≤ k + s.2.2 - 1 ∧ 1 ≤ s.2.2 ∧ k + s.2.2 ≤ y.length ∧ (∀ i : Nat, k + s.2.2 - 1 ≤ i → s.1[i]? = y[i]?) ∧ Cmp y (s.1.take s.2.1.toNat) (k + s.2.2).toNat, fun s => (y.length - s.2.2).toNat, ⟨rfl, by simp; omega, by simp, by simp, by simp; omega, fun i _ => rfl, ?_⟩, ?_⟩
      · have := hst.1 he
        rw [show (k + (1 : Int)).toNat = k.toNat + 1 by omega]; exact this
      rintro ⟨s, k', k2⟩ ⟨s1, s2, s3, s4, s5, s6, s7⟩
      simp only at s1 s2 s3 s4 s5 s6 s7
      refine ⟨by unfold I64; omega, fun hk2 => VMeet_go ⟨⟨by omega, by omega, by omega⟩, by unfold I64; omega, ⟨by omega, by omega, by omega⟩, ?_⟩, fun hk2 => ⟨?_, ⟨by omega, by simp; omega⟩, ?_⟩⟩
      · have ea : ix s (k + k2) = ix y (k + k2) := by unfold ix; rw [List.getD_eq_getElem?_getD, List.getD_eq_getElem?_getD, s6 _ (by omega)]
        have eb : ix s (k + (k2 - 1)) = ix y (k + k2 - 1) := by unfold ix; rw [List.getD_eq_getElem?_getD, List.getD_eq_getElem?_getD, s6 _ (by omega), show k + (k2 - 1) = k + k2 - 1 by omega]
        rw [ea, eb]
        have hst := s7.step hv hy (by omega)
        rw [show (((k + k2).toNat : Nat) : Int) = k + k2 by omega] at hst
        refine SetOf1_ok (HvL_iff.1 hv _ (ix_mem (by omega) (by omega))) (HvL_iff.1 hv _ (ix_mem (by omega) (by omega))) ⟨fun hn => ⟨⟨by omega, by omega, by omega⟩, ⟨by omega, by omega⟩, by unfold I64; omega, by unfold I64; omega, ⟨by simpa using s1, by show (1 : Int) ≤ k' + 1; omega, by show k' + 1 ≤ k + (k2 + 1) - 1; omega, by show (1 : Int) ≤ k2 + 1; omega, by show k + (k2 + 1) ≤ _; omega, ?_, ?_⟩, by show ((y.length : Int) - (k2 + 1)).toNat < ((y.length : Int) - k2).toNat; omega⟩, fun hn => ⟨by unfold I64; omega, ⟨s1, s2, by show k' ≤ k + (k2 + 1) - 1; omega, by show (1 : Int) ≤ k2 + 1; omega, by show k + (k2 + 1) ≤ _; omega, ?_, ?_⟩, by show ((y.length : Int) - (k2 + 1)).toNat < ((y.length : Int) - k2).toNat; omega⟩⟩
        · intro i hi
          have hi : k + (k2 + 1) - 1 ≤ (i : Int) := hi
          show (s.set k'.toNat _)[i]? = _
          rw [List.getElem?_set_ne (by omega)]; exact s6 i (by omega)
        · have := hst.2 (by simpa using hn)
          show Cmp y ((s.set k'.toNat _).take (k' + 1).toNat) (k + (k2 + 1)).toNat
          rw [show (k + (k2 + 1)).toNat = (k + k2).toNat + 1 by omega, show (k' + 1).toNat = k'.toNat + 1 by omega]
          have e : (s.set k'.toNat (ix y (k + k2))).take (k'.toNat + 1) = s.take k'.toNat ++ [ix y (k + k2)] := by
            rw [List.take_add_one, List.take_set_of_le (by omega), List.getElem?_set_self (by omega)]; rfl
          rw [e]; exact this
        · intro i hi
          have hi : k + (k2 + 1) - 1 ≤ (i : Int) := hi
          exact s6 i (by omega)
        · have := hst.1 (by simpa using hn)
          show Cmp y (s.take k'.toNat) (k + (k2 + 1)).toNat
          rw [show (k + (k2 + 1)).toNat = (k + k2).toNat + 1 by omega]; exact this
      · exact ⟨by omega, by omega⟩
      · have hz : (k + k2).toNat = y.length := by omega
        rw [hz] at s7
        rw [List.take_append_of_le_length (by simp; omega), List.take_take, Nat.min_self]
        exact h _ s7.asc fun a => by rw [s7.mem]; simp
    · have := hst.2 (by simpa using he)
      rw [show (k + (1 : Int)).toNat = k.toNat + 1 by omega]
      have e : y.take (k.toNat + 1) = y.take k.toNat ++ [ix y k] := by have := take_ix (l := y) (i := k) (by omega) hk; rwa [show (k + (1 : Int)).toNat = k.toNat + 1 by omega] at this
      rw [e]; exact this
  · have : k.toNat = y.length := by omega
    rw [this] at hc
    have := hc.asc; rw [List.take_length] at this
    exact h y this fun a => Iff.rfl
theorem SetOf_ok {l : List Val} {Q : Val → Prop} (hl : FitL l) (hn : l.length ≤ 1000000) (h : Q (setV l)) : V_SetOf l Q := by
  have hv := hl.hv
  refine ⟨by omega, cmpV, fun a ha b hb => ⟨a.sz + 1, Compare_ok _ (by omega) (HvL_iff.1 hv _ ha) (HvL_iff.1 hv _ hb) rfl⟩, fun a _ => asc_irr, fun a _ b _ d _ h1 h2 => cmpV_trans h1 h2, fun a _ b _ d _ h1 h2 => ?_, fun y hp hs => ?_⟩
  · have := cmpV_neg b a; have := cmpV_neg d b; have := cmpV_neg d a
    have := cmpV_trans_le (a := d) (b := b) (c := a) (by omega) (by omega)
    omega
  · have hy : HvL y := HvL_iff.2 fun a ha => HvL_iff.1 hv _ (hp.mem_iff.1 ha)
    refine CompactV_ok hy hs fun z hz hm => ?_
    have e : z = canon l := asc_ext hz (canon_asc hv) fun a => by rw [hm, canon_mem hv, hp.mem_iff]
    subst e
    exact ascSet_ok (FitL_iff.2 fun a ha => FitL_iff.1 hl _ ((canon_mem hv a).1 ha)) h
end Go.Vc
