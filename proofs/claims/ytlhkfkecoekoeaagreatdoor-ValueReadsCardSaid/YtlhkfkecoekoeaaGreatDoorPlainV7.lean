/- The stable sort of a function's keys, part 3: blocks. No program in sight. -/
import Derived.Test.YtlhkfkecoekoeaaGreatDoorPlainV6
set_option linter.unusedVariables false
set_option linter.unusedSimpArgs false
namespace Go.Vc
def rgI (lo hi : Int) : List Int := (List.range (hi - lo).toNat).map fun k : Nat => lo + (k : Int)
theorem rgI_len {lo hi : Int} : (rgI lo hi).length = (hi - lo).toNat := by simp [rgI]
theorem rgI_mem {lo hi x : Int} : x ∈ rgI lo hi ↔ lo ≤ x ∧ x < hi := by
  simp only [rgI, List.mem_map, List.mem_range]; constructor
  · rintro ⟨k, hk, rfl⟩; omega
  · rintro ⟨h1, h2⟩; exact ⟨(x - lo).toNat, by omega, by omega⟩
theorem rgI_app {lo m hi : Int} (h1 : lo ≤ m) (h2 : m ≤ hi) : rgI lo hi = rgI lo m ++ rgI m hi := by
  have e : (hi - lo).toNat = (m - lo).toNat + (hi - m).toNat := by omega
  simp only [rgI, e, List.range_add, List.map_append, List.map_map]
  congr 1
  refine List.map_congr_left fun k _ => ?_
  simp; omega
theorem rgI_lt {lo hi : Int} : (rgI lo hi).Pairwise (· < ·) := by
  refine List.Pairwise.map _ (fun a b h => ?_) (List.pairwise_lt_range)
  omega
section
variable {c : List Val}
inductive Ch (c : List Val) (bs n : Int) : Int → List Int → Prop
  | nil : Ch c bs n n []
  | cons {lo : Int} {X W : List Int} : lo < n → X.Perm (rgI lo (min (lo + bs) n)) → X.Pairwise (ltI c) → Ch c bs n (min (lo + bs) n) W → Ch c bs n lo (X ++ W)
theorem Ch.le {bs n lo : Int} {W : List Int} (h : Ch c bs n lo W) : lo ≤ n := by
  cases h <;> omega
theorem Ch.len {bs n lo : Int} {W : List Int} (hbs : 0 < bs) (h : Ch c bs n lo W) : (W.length : Int) = n - lo := by
  induction h with
  | nil => simp
  | cons h1 h2 h3 h4 ih => have := h2.length_eq; rw [rgI_len] at this; simp; omega
theorem Ch.end' {bs n : Int} {W : List Int} (h : Ch c bs n n W) : W = [] := by
  cases h with
  | nil => rfl
  | cons h1 => omega
theorem stabSF_ok (hv : HvL c) {n : Int} {Q : List Int → Prop} (hn : n = c.length) (hn2 : n ≤ 1000000) (h : ∀ d, d.Perm (rgI 0 n) → d.Pairwise (ltI c) → Q d) : V_stabSF (rgI 0 n) n c Q := by
  have inR : ∀ lo hi : Int, 0 ≤ lo → hi ≤ n → Inds c (rgI lo hi) := fun lo hi h0 h1 i hi => by have := rgI_mem.1 hi; exact ⟨by omega, by omega⟩
  refine ⟨fun s => ∃ Z, s.1 = Z ++ rgI s.2.1 n ∧ s.2.2 = s.2.1 + 20 ∧ 0 ≤ s.2.1 ∧ s.2.1 ≤ n ∧ s.2.1 = Z.length ∧ ∀ W, Ch c 20 n s.2.1 W → Ch c 20 n 0 (Z ++ W), fun s => (n - s.2.1).toNat, ⟨[], by simp, by simp, by simp, by simp; omega, by simp, fun W hW => by simpa using hW⟩, ?_⟩
  rintro ⟨d, a, b⟩ ⟨Z, e1, e2, e3, e4, e5, e6⟩
  simp only at e1 e2 e3 e4 e5 e6
  subst e1
  refine ⟨fun hb => ?_, fun hb => ?_⟩
  · have er : Z ++ rgI a n = Z ++ rgI a b ++ rgI b n := by rw [rgI_app (m := b) (by omega) hb]; simp
    rw [er]
    refine insSF_ok hv (by simp [rgI_len]; omega) e5 (by rw [rgI_len]; omega) (inR _ _ e3 hb) rgI_lt (fun Y hY sY => ⟨by unfold I64; omega, ⟨Z ++ Y, by simp, rfl, by show 0 ≤ b; omega, hb, ?_, fun W hW => ?_⟩, by show (n - b).toNat < (n - a).toNat; omega⟩)
    · have := hY.length_eq; rw [rgI_len] at this; show b = _; simp; omega
    · have eb : min (a + 20) n = b := by omega
      have := e6 (Y ++ W) (Ch.cons (by omega) (by rw [eb]; exact hY) sY (by rw [eb]; exact hW))
      simpa using this
  · have er : Z ++ rgI a n = Z ++ rgI a n ++ [] := by simp
    rw [er]
    refine insSF_ok hv (by simp [rgI_len]; omega) e5 (by rw [rgI_len]; omega) (inR _ _ e3 (by omega)) rgI_lt (fun Y hY sY => ?_)
    have hch : Ch c 20 n 0 (Z ++ Y ++ []) := by
      rw [List.append_nil]
      by_cases ha : a < n
      · have eb : min (a + 20) n = n := by omega
        have := e6 (Y ++ []) (Ch.cons ha (by rw [eb]; exact hY) sY (by rw [eb]; exact Ch.nil))
        simpa using this
      · have ha : a = n := by omega
        subst ha
        have : Y = [] := List.length_eq_zero_iff.1 (by have := hY.length_eq; rw [rgI_len] at this; omega)
        subst this
        exact e6 [] Ch.nil
    clear e6 er hb
    refine ⟨fun s => Ch c s.2 n 0 s.1 ∧ 20 ≤ s.2 ∧ s.2 ≤ 4000000, fun s => (n - s.2).toNat, ⟨hch, by simp, by simp⟩, ?_⟩
    rintro ⟨d, bs⟩ ⟨g1, g2, g3⟩
    simp only at g1 g2 g3
    refine ⟨fun hbs => ⟨by unfold I64; omega, ?_⟩, fun hbs => ?_⟩
    · refine ⟨fun s => ∃ Z W, s.1 = Z ++ W ∧ s.2.2 = s.2.1 + 2 * bs ∧ 0 ≤ s.2.1 ∧ s.2.1 ≤ n ∧ s.2.1 = Z.length ∧ Ch c bs n s.2.1 W ∧ ∀ W, Ch c (bs * 2) n s.2.1 W → Ch c (bs * 2) n 0 (Z ++ W), fun s => (n - s.2.1).toNat, ⟨[], d, by simp, by simp, by simp, by simp; omega, by simp, g1, fun W hW => by simpa using hW⟩, ?_⟩
      rintro ⟨d, a, b⟩ ⟨Z, W, f1, f2, f3, f4, f5, f6, f7⟩
      simp only at f1 f2 f3 f4 f5 f6 f7
      subst f1
      refine ⟨fun hb => ⟨by unfold I64; omega, ?_⟩, fun hb => VMeet_go ⟨by unfold I64; omega, fun hab => ?_, fun hab => ?_⟩⟩
      · cases f6 with
        | nil => omega
        | cons h1 h2 h3 h4 =>
          rename_i X W1
          rw [show min (a + bs) n = a + bs by omega] at h2 h4
          cases h4 with
          | nil => omega
          | cons k1 k2 k3 k4 =>
            rename_i Y W2
            rw [show min (a + bs + bs) n = b by omega] at k2 k4
            have lX := h2.length_eq; have lY := k2.length_eq; have lW := k4.len (by omega)
            rw [rgI_len] at lX lY
            rw [show Z ++ (X ++ (Y ++ W2)) = Z ++ X ++ Y ++ W2 by simp]
            refine ⟨_, symSF_ok hv _ (Nat.lt_succ_self _) (by simp; omega) f5 (by omega) (by omega) (by rintro rfl; simp at lX; omega) (by rintro rfl; simp at lY; omega)
              (fun i hi => inR _ _ f3 (by omega : a + bs ≤ n) i (h2.mem_iff.1 hi)) (fun i hi => inR _ _ (by omega : 0 ≤ a + bs) hb i (k2.mem_iff.1 hi)) h3 k3
              (fun x hx y hy => by have := rgI_mem.1 (h2.mem_iff.1 hx); have := rgI_mem.1 (k2.mem_iff.1 hy); omega) (fun V pV sV => ⟨by unfold I64; omega, by unfold I64; omega, ⟨Z ++ V, W2, by simp, rfl, by show 0 ≤ b; omega, hb, ?_, k4, fun W' hW' => ?_⟩, by show (n - b).toNat < (n - a).toNat; omega⟩)⟩
            · have := pV.length_eq; simp at this; show b = _; simp; omega
            · have eb : min (a + bs * 2) n = b := by omega
              have pr : V.Perm (rgI a b) := by
                rw [rgI_app (m := a + bs) (by omega) (by omega)]; exact pV.trans (h2.append k2)
              have := f7 (V ++ W') (Ch.cons (by omega) (by rw [eb]; exact pr) sV (by rw [eb]; exact hW'))
              simpa using this
      · cases f6 with
        | nil => omega
        | cons h1 h2 h3 h4 =>
          rename_i X W1
          rw [show min (a + bs) n = a + bs by omega] at h2 h4
          cases h4 with
          | nil => omega
          | cons k1 k2 k3 k4 =>
            rename_i Y W2
            rw [show min (a + bs + bs) n = n by omega] at k2 k4
            have := k4.end'; subst this
            have lX := h2.length_eq; have lY := k2.length_eq
            rw [rgI_len] at lX lY
            rw [show Z ++ (X ++ (Y ++ [])) = Z ++ X ++ Y ++ [] by simp]
            refine ⟨_, symSF_ok hv _ (Nat.lt_succ_self _) (by simp; omega) f5 (by omega) (by omega) (by rintro rfl; simp at lX; omega) (by rintro rfl; simp at lY; omega)
              (fun i hi => inR _ _ f3 (by omega : a + bs ≤ n) i (h2.mem_iff.1 hi)) (fun i hi => inR _ _ (by omega : 0 ≤ a + bs) (by omega : n ≤ n) i (k2.mem_iff.1 hi)) h3 k3
              (fun x hx y hy => by have := rgI_mem.1 (h2.mem_iff.1 hx); have := rgI_mem.1 (k2.mem_iff.1 hy); omega) (fun V pV sV => ⟨by unfold I64; omega, ⟨?_, by show 20 ≤ bs * 2; omega, by show bs * 2 ≤ 4000000; omega⟩, by show (n - bs * 2).toNat < (n - bs).toNat; omega⟩)⟩
            have eb : min (a + bs * 2) n = n := by omega
            have pr : V.Perm (rgI a n) := by
              rw [rgI_app (m := a + bs) (by omega) (by omega)]; exact pV.trans (h2.append k2)
            have := f7 (V ++ []) (Ch.cons (by omega) (by rw [eb]; exact pr) sV (by rw [eb]; exact Ch.nil))
            simpa using this
      · refine ⟨by unfold I64; omega, ⟨f7 W ?_, by show 20 ≤ bs * 2; omega, by show bs * 2 ≤ 4000000; omega⟩, by show (n - bs * 2).toNat < (n - bs).toNat; omega⟩
        cases f6 with
        | nil => exact Ch.nil
        | cons h1 h2 h3 h4 =>
          rw [show min (a + bs) n = n by omega] at h2 h4
          exact Ch.cons h1 (by rw [show min (a + bs * 2) n = n by omega]; exact h2) h3 (by rw [show min (a + bs * 2) n = n by omega, h4.end']; exact Ch.nil)
    · generalize hz : (0 : Int) = z at g1
      cases g1 with
      | nil => subst hz; exact h [] (by simp [rgI]) List.Pairwise.nil
      | cons h1 h2 h3 h4 =>
        subst hz
        rw [show min (0 + bs) n = n by omega] at h2 h4
        rw [h4.end', List.append_nil]; exact h _ h2 h3
theorem SortSF_ok (hv : HvL c) {Q : List Int → Prop} (hn2 : (c.length : Int) ≤ 1000000) (h : ∀ d, d.Perm (rgI 0 c.length) → d.Pairwise (ltI c) → Q d) : V_SortSF (rgI 0 c.length) c Q := by
  intro _
  rw [show (((rgI 0 (c.length : Int)).length : Nat) : Int) = c.length by rw [rgI_len]; omega]
  exact stabSF_ok hv rfl hn2 h
end
end Go.Vc
