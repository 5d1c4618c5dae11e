/- The plain part of BddNews, part 2: counts and sizes; all cases. No program in sight. -/
import Derived.Test.YtceipmldngeagaaDoorPlainBD
import Derived.Test.YtceipmldngeagaaDoorRead
set_option linter.unusedVariables false
set_option linter.unusedSimpArgs false
namespace Go.Vc
section
variable {nodes : Nds} {free : List Int} {ms memo : Mp} {order level : List Int}
theorem Count1_end {m : Nat} {f : Int} {c : List (Int × Int)} {Q : Int → List (Int × Int) → Prop} (hf : f ≤ 1) (h : Q f c) : V_Count1 (m + 1) f c nodes free ms order level memo Q := ⟨fun _ => h, fun h => absurd hf h⟩
theorem Count1_node {m : Nat} {f v lo up df dl du rl ru : Int} {c c1 c2 : List (Int × Int)} {Q : Int → List (Int × Int) → Prop} (hf : 1 < f) (hin : In f nodes) (hn : ix nodes f = (v, lo, up)) (hc : mhas c f = false)
    (hd : ∀ R : Int → Prop, R df → V_depth nodes free ms order level memo f R) (hdl : ∀ R : Int → Prop, R dl → V_depth nodes free ms order level memo lo R) (hdu : ∀ R : Int → Prop, R du → V_depth nodes free ms order level memo up R)
    (h1 : 0 ≤ df) (h2 : df < dl) (h3 : df < du) (h4 : dl ≤ 24) (h5 : du ≤ 24)
    (hl : ∀ R : Int → List (Int × Int) → Prop, R rl c1 → V_Count1 m lo c nodes free ms order level memo R) (hu : ∀ R : Int → List (Int × Int) → Prop, R ru c2 → V_Count1 m up c1 nodes free ms order level memo R)
    (hrl : 0 ≤ rl ∧ rl ≤ 16777216) (hru : 0 ≤ ru ∧ ru ≤ 16777216)
    (h : Q (rl * 2 ^ (dl - df - 1).toNat + ru * 2 ^ (du - df - 1).toNat) (mset c2 f (rl * 2 ^ (dl - df - 1).toNat + ru * 2 ^ (du - df - 1).toNat))) : V_Count1 (m + 1) f c nodes free ms order level memo Q := by
  have hp : ∀ k : Nat, k ≤ 24 → (1 : Int) ≤ 2 ^ k ∧ (2 : Int) ^ k ≤ 16777216 := by
    intro k hk
    have h1 : (2 : Int) ^ k ≤ 2 ^ 24 := by
      have : (2 : Nat) ^ k ≤ 2 ^ 24 := Nat.pow_le_pow_right (by omega) hk
      exact_mod_cast this
    have h2 : (1 : Int) ≤ 2 ^ k := by
      have : 1 ≤ (2 : Nat) ^ k := Nat.one_le_two_pow
      exact_mod_cast this
    exact ⟨h2, by simpa using h1⟩
  have hm : ∀ (r : Int) (k : Nat), 0 ≤ r → r ≤ 16777216 → k ≤ 24 → 0 ≤ r * 2 ^ k ∧ r * 2 ^ k ≤ 281474976710656 := by
    intro r k g1 g2 hk
    obtain ⟨p1, p2⟩ := hp k hk
    refine ⟨Int.mul_nonneg g1 (by omega), ?_⟩
    have := Int.mul_le_mul g2 p2 (by omega) (by omega)
    omega
  have ml := hm rl (dl - df - 1).toNat hrl.1 hrl.2 (by omega)
  have mu := hm ru (du - df - 1).toNat hru.1 hru.2 (by omega)
  refine ⟨fun h => by omega, fun _ _ => ⟨fun hh => (by rw [hc] at hh; cases hh), fun _ => ⟨hin, fun _ _ _ => hd _ ?_⟩⟩⟩
  rw [hn]
  refine hl _ (hdl _ ⟨by unfold I64; omega, by unfold I64; omega, ⟨by omega, by omega, by unfold I64; omega⟩, hu _ (hdu _ ⟨by unfold I64; omega, by unfold I64; omega, ⟨by omega, by omega, by unfold I64; omega⟩, by unfold I64; omega, h⟩)⟩)
theorem Count_ok {f r d : Int} {c : List (Int × Int)} {m : Nat} {Q : Int → Prop} (h1 : ∀ R : Int → List (Int × Int) → Prop, R r c → V_Count1 m f [] nodes free ms order level memo R) (hd : ∀ R : Int → Prop, R d → V_depth nodes free ms order level memo f R)
    (h0 : 0 ≤ d) (h24 : d ≤ 24) (hr : 0 ≤ r ∧ r ≤ 16777216) (h : Q (r * 2 ^ d.toNat)) : V_Count nodes free ms order level memo f Q := by
  refine ⟨m, h1 _ (hd _ ⟨⟨by omega, by omega, ?_⟩, h⟩)⟩
  have h2 : (2 : Int) ^ d.toNat ≤ 2 ^ 24 := by
    have : (2 : Nat) ^ d.toNat ≤ 2 ^ 24 := Nat.pow_le_pow_right (by omega) (by omega)
    exact_mod_cast this
  have h3 : (1 : Int) ≤ 2 ^ d.toNat := by
    have : 1 ≤ (2 : Nat) ^ d.toNat := Nat.one_le_two_pow
    exact_mod_cast this
  have h4 := Int.mul_nonneg hr.1 (show (0 : Int) ≤ 2 ^ d.toNat by omega)
  have h5 := Int.mul_le_mul hr.2 (by simpa using h2) (by omega) (by omega : (0 : Int) ≤ 16777216)
  unfold I64; omega
theorem below_end {m : Nat} {f : Int} {s : List (Int × Int)} {Q : List (Int × Int) → Prop} (hf : f ≤ 1) (h : Q s) : V_below (m + 1) nodes free ms order level memo f s Q :=
  ⟨fun b => b = true, fun b hb => by rw [hb]; exact ⟨fun _ => h, fun h => by cases h⟩, fun _ => rfl, fun h => absurd hf h⟩
theorem below_node {m : Nat} {f v lo up : Int} {s s1 s2 : List (Int × Int)} {Q : List (Int × Int) → Prop} (hf : 1 < f) (hin : In f nodes) (hn : ix nodes f = (v, lo, up)) (hs : mgetD s f 0 = 0)
    (hl : ∀ R : List (Int × Int) → Prop, R s1 → V_below m nodes free ms order level memo lo (mset s f 1) R) (hu : ∀ R : List (Int × Int) → Prop, R s2 → V_below m nodes free ms order level memo up s1 R) (h : Q s2) : V_below (m + 1) nodes free ms order level memo f s Q := by
  refine ⟨fun b => b = false, fun b hb => ?_, fun h => absurd h (by omega), fun _ _ => by simp [hs]⟩
  rw [hb]
  refine ⟨fun h => (by cases h), fun _ => ⟨hin, fun _ => ?_⟩⟩
  rw [hn]
  exact hl _ ⟨hin, fun _ => hu _ h⟩
theorem Size_one {x : Int} {s : List (Int × Int)} {m : Nat} {Q : Int → Prop} (hb : ∀ R : List (Int × Int) → Prop, R s → V_below m nodes free ms order level memo x [] R) (hs : s.length ≤ 5) (h : Q s.length) : V_Size nodes free ms order level memo [x] Q := by
  refine fun _ => ⟨fun t => t = ([], 0) ∨ t = (s, 1), fun t => if t.2 = 0 then 1 else 0, .inl rfl, fun t ht => ?_⟩
  rcases ht with rfl | rfl
  · exact ⟨fun _ => ⟨⟨by omega, by simp⟩, fun _ => ⟨m, hb _ ⟨by unfold I64; omega, .inr rfl, by simp⟩⟩⟩, fun h => absurd (by simp) h⟩
  · refine ⟨fun hlt => absurd hlt (by simp), fun _ => ⟨by unfold Len; omega, h⟩⟩
end
/-- What And of two variables counts. -/
def wantOf (n i k : Int) : Int := if (0 ≤ i ∧ i < n) ∧ (0 ≤ k ∧ k < n) then (if i = k then ((1 : Int) * 2 ^ n.toNat).tdiv 2 else ((1 : Int) * 2 ^ n.toNat).tdiv 4) else 0
def sizeOf2 (n i k : Int) : Int := if (0 ≤ i ∧ i < n) ∧ (0 ≤ k ∧ k < n) then (if i = k then 1 else 2) else 0
def oB (n i : Int) (at_ : List Bool) : Bool := decide (0 ≤ i ∧ i < n) && (decide (i < at_.length) && ix at_ i)
theorem half {n : Int} (h : 1 ≤ n) : ((1 : Int) * 2 ^ n.toNat).tdiv 2 = 2 ^ (n.toNat - 1) := by
  obtain ⟨m, hm⟩ : ∃ m, n.toNat = m + 1 := ⟨n.toNat - 1, by omega⟩
  rw [hm, Int.one_mul, Int.pow_succ, Int.mul_tdiv_cancel _ (by omega)]; rfl
theorem quarter {n : Int} (h : 2 ≤ n) : ((1 : Int) * 2 ^ n.toNat).tdiv 4 = 2 ^ (n.toNat - 2) := by
  obtain ⟨m, hm⟩ : ∃ m, n.toNat = m + 2 := ⟨n.toNat - 2, by omega⟩
  rw [hm, Int.one_mul, show (2 : Int) ^ (m + 2) = 2 ^ m * 4 by rw [Int.pow_succ, Int.pow_succ, Int.mul_assoc]; rfl, Int.mul_tdiv_cancel _ (by omega)]; rfl
theorem pow_pos1 (k : Nat) : (1 : Int) ≤ 2 ^ k := by
  have : 1 ≤ (2 : Nat) ^ k := Nat.one_le_two_pow
  exact_mod_cast this
theorem pow_le24 {k : Nat} (h : k ≤ 24) : (2 : Int) ^ k ≤ 16777216 := by
  have : (2 : Nat) ^ k ≤ 2 ^ 24 := Nat.pow_le_pow_right (by omega) h
  have h2 : (2 : Int) ^ k ≤ 2 ^ 24 := by exact_mod_cast this
  simpa using h2
/-- What is said of the nodes that are made. -/
def Said (n i k : Int) (at_ : List Bool) (v x : Int) (nodes : Nds) (ms memo : Mp) : Prop :=
  (∀ Q : Bool → Prop, Q (oB n i at_) → V_Eval nodes [] ms (rng n) (rng n) memo v at_ Q) ∧ (∀ Q : Int → Prop, Q (wantOf n i k) → V_Count nodes [] ms (rng n) (rng n) memo x Q) ∧
  (∀ Q : Int → Prop, Q (sizeOf2 n i k) → V_Size nodes [] ms (rng n) (rng n) memo [x] Q) ∧ (v = 0 ↔ ¬ (0 ≤ i ∧ i < n))
section
variable {n i k : Int} {at_ : List Bool} {nodes : Nds} {ms memo : Mp}
/-- The node x is an end that is never so. -/
theorem said_zero {v : Int} (h0 : 0 ≤ n) (h24 : n ≤ 24) (hE : ∀ Q : Bool → Prop, Q (oB n i at_) → V_Eval nodes [] ms (rng n) (rng n) memo v at_ Q) (hv : v = 0 ↔ ¬ (0 ≤ i ∧ i < n)) (hno : ¬ ((0 ≤ i ∧ i < n) ∧ (0 ≤ k ∧ k < n))) : Said n i k at_ v 0 nodes ms memo := by
  refine ⟨hE, fun Q h => ?_, fun Q h => ?_, hv⟩
  · refine Count_ok (m := 1) (fun R h => Count1_end (by omega) h) (d := n) (fun R h => depth_end (by omega) (by rw [rng_length h0]; exact h)) h0 h24 (by omega) ?_
    rw [wantOf, if_neg hno] at h
    simpa using h
  · refine Size_one (m := 1) (s := []) (fun R h => below_end (by omega) h) (by simp) ?_
    rw [sizeOf2, if_neg hno] at h
    simpa using h
theorem oB_no {n i : Int} {at_ : List Bool} (h : ¬ (0 ≤ i ∧ i < n)) : oB n i at_ = false := by simp [oB, h]
theorem oB_yes {n i : Int} {at_ : List Bool} (h : 0 ≤ i ∧ i < n) : oB n i at_ = (decide (i < at_.length) && ix at_ i) := by simp [oB, h]
theorem eval_zero {v : Int} (hv : v = 0) (h : ¬ (0 ≤ i ∧ i < n)) : ∀ Q : Bool → Prop, Q (oB n i at_) → V_Eval nodes [] ms (rng n) (rng n) memo v at_ Q := by
  intro Q hq
  subst hv
  refine Eval_end (by omega) ?_
  rw [oB_no h] at hq
  simpa using hq
theorem eval_two (hn : ix nodes 2 = (i, 0, 1)) (hin : In 2 nodes) (h : 0 ≤ i ∧ i < n) : ∀ Q : Bool → Prop, Q (oB n i at_) → V_Eval nodes [] ms (rng n) (rng n) memo 2 at_ Q := by
  intro Q hq
  refine Eval_var (by omega) hin hn h.1 ?_
  rw [oB_yes h] at hq
  exact hq
/-- A node that asks a variable: depth, count. -/
theorem depth_node (h0 : 0 ≤ n) {f a lo up : Int} (hf : 1 < f) (hin : In f nodes) (hn : ix nodes f = (a, lo, up)) (ha : 0 ≤ a ∧ a < n) : ∀ R : Int → Prop, R a → V_depth nodes [] ms (rng n) (rng n) memo f R := by
  intro R hR
  refine depth_in hf hin (by rw [hn]; exact rng_in ha.1 ha.2) ?_
  rw [hn]
  rw [show ((a, lo, up) : Int × Int × Int).1 = a from rfl, rng_ix ha.1 ha.2]; exact hR
theorem depth_leaf (h0 : 0 ≤ n) {f : Int} (hf : f ≤ 1) : ∀ R : Int → Prop, R n → V_depth nodes [] ms (rng n) (rng n) memo f R := fun R hR => depth_end hf (by rw [rng_length h0]; exact hR)
theorem count_var (h0 : 0 ≤ n) (h24 : n ≤ 24) {m : Nat} {f a : Int} {c : List (Int × Int)} (hf : 1 < f) (hin : In f nodes) (hn : ix nodes f = (a, 0, 1)) (ha : 0 ≤ a ∧ a < n) (hc : mhas c f = false) :
    ∀ R : Int → List (Int × Int) → Prop, R (2 ^ (n - a - 1).toNat) (mset c f (2 ^ (n - a - 1).toNat)) → V_Count1 (m + 2) f c nodes [] ms (rng n) (rng n) memo R := by
  intro R hR
  refine Count1_node (rl := 0) (ru := 1) (c1 := c) (c2 := c) hf hin hn hc (depth_node h0 hf hin hn ha) (depth_leaf h0 (by omega)) (depth_leaf h0 (by omega)) ha.1 ha.2 ha.2 h24 h24 (fun R h => Count1_end (by omega) h) (fun R h => Count1_end (by omega) h) (by omega) (by omega) ?_
  simpa using hR
theorem said_same (h0 : 0 ≤ n) (h24 : n ≤ 24) (hi : 0 ≤ i ∧ i < n) (hk : k = i) (hin : In 2 nodes) (hn : ix nodes 2 = (i, 0, 1)) : Said n i k at_ 2 2 nodes ms memo := by
  subst hk
  refine ⟨eval_two hn hin hi, fun Q h => ?_, fun Q h => ?_, by simp; exact hi⟩
  · refine Count_ok (m := 2) (count_var h0 h24 (by omega) hin hn hi rfl) (depth_node h0 (by omega) hin hn hi) hi.1 (by omega) ⟨by have := pow_pos1 (n - k - 1).toNat; omega, pow_le24 (by omega)⟩ ?_
    rw [wantOf, if_pos ⟨hi, hi⟩, if_pos rfl, half (by omega)] at h
    rw [← Int.pow_add, show (n - k - 1).toNat + k.toNat = n.toNat - 1 by omega]
    exact h
  · refine Size_one (m := 2) (s := [(2, 1)]) (fun R h => below_node (by omega) hin hn rfl (fun R h => below_end (by omega) h) (fun R h => below_end (by omega) h) h) (by simp) ?_
    rw [sizeOf2, if_pos ⟨hi, hi⟩, if_pos rfl] at h
    exact h
/-- Two variables, one below the other: the node 4 asks a, below it p asks b. -/
theorem said_two (h0 : 0 ≤ n) (h24 : n ≤ 24) (hi : 0 ≤ i ∧ i < n) (hk : 0 ≤ k ∧ k < n) (hne : i ≠ k) {a b p : Int} (hab : a < b) (ha : 0 ≤ a ∧ a < n) (hb : 0 ≤ b ∧ b < n) (hp : p = 2 ∨ p = 3) (hin : ∀ j, 2 ≤ j → j ≤ 4 → In j nodes) (hn2 : ix nodes 2 = (i, 0, 1)) (hnp : ix nodes p = (b, 0, 1)) (hn4 : ix nodes 4 = (a, 0, p)) :
    Said n i k at_ 2 4 nodes ms memo := by
  have hp1 : 1 < p := by omega
  have hpi : In p nodes := hin p (by omega) (by omega)
  have h4i : In 4 nodes := hin 4 (by omega) (by omega)
  refine ⟨eval_two hn2 (hin 2 (by omega) (by omega)) hi, fun Q h => ?_, fun Q h => ?_, by simp; exact hi⟩
  · have hpw : (0 : Int) ≤ 2 ^ (n - b - 1).toNat ∧ (2 : Int) ^ (n - b - 1).toNat ≤ 16777216 := ⟨by have := pow_pos1 (n - b - 1).toNat; omega, pow_le24 (by omega)⟩
    have hr : (0 : Int) * 2 ^ (n - a - 1).toNat + 2 ^ (n - b - 1).toNat * 2 ^ (b - a - 1).toNat = 2 ^ (n - a - 2).toNat := by
      rw [Int.zero_mul, Int.zero_add, ← Int.pow_add]; congr 1; omega
    refine Count_ok (m := 3) (r := 2 ^ (n - a - 2).toNat) (c := mset (mset [] p (2 ^ (n - b - 1).toNat)) 4 (2 ^ (n - a - 2).toNat)) (fun R hR => Count1_node (m := 2) (rl := 0) (ru := 2 ^ (n - b - 1).toNat) (c1 := []) (c2 := mset [] p (2 ^ (n - b - 1).toNat)) (by omega) h4i hn4 rfl (depth_node h0 (by omega) h4i hn4 ha) (depth_leaf h0 (by omega)) (depth_node h0 hp1 hpi hnp hb) ha.1 ha.2 hab h24 (by omega)
      (fun R h => Count1_end (by omega) h) (count_var h0 h24 hp1 hpi hnp hb rfl) (by omega) hpw (by rw [hr]; exact hR)) (depth_node h0 (by omega) h4i hn4 ha) ha.1 (by omega) ⟨by have := pow_pos1 (n - a - 2).toNat; omega, pow_le24 (by omega)⟩ ?_
    rw [wantOf, if_pos ⟨hi, hk⟩, if_neg hne, quarter (by omega)] at h
    rw [← Int.pow_add, show (n - a - 2).toNat + a.toNat = n.toNat - 2 by omega]
    exact h
  · have h4p : ¬ 4 = p := by omega
    have hp4 : ¬ p = 4 := by omega
    refine Size_one (m := 3) (s := [(4, 1), (p, 1)]) (fun R h => below_node (m := 2) (s1 := [(4, 1)]) (by omega) h4i hn4 rfl (fun R h => below_end (by omega) h) (fun R h => below_node (m := 1) (s1 := [(4, 1), (p, 1)]) hp1 hpi hnp (by simp [mgetD, mfind, hp4]) (fun R h => below_end (by omega) (by simpa [mset, hp4] using h)) (fun R h => below_end (by omega) h) h) h) (by simp) ?_
    rw [sizeOf2, if_pos ⟨hi, hk⟩, if_neg hne] at h
    exact h
end
section
variable {n i k : Int} {at_ : List Bool}
theorem made (h0 : 0 ≤ n) (h24 : n ≤ 24) : ∃ v w x nodes ms memo, Said n i k at_ v x nodes ms memo ∧ ∀ R : Int → Int → Int → Nds → List Int → Mp → Mp → Prop, R v w x nodes [] ms memo →
    V_Var (ends n) [] [] (rng n) (rng n) [] i fun a b c d => V_Var b c d (rng n) (rng n) [] k fun a' b' c' d' => V_And b' c' d' (rng n) (rng n) [] a a' fun x e1 e2 e3 e4 => R a a' x e1 e2 e3 e4 := by
  by_cases hi : 0 ≤ i ∧ i < n
  · by_cases hk : 0 ≤ k ∧ k < n
    · have hl2 : ix (N1 n i) 2 = (i, 0, 1) := rfl
      rcases Int.lt_trichotomy i k with hlt | heq | hgt
      · refine ⟨2, 3, 4, N3 n i k (i, 0, 3), M3 i k (i, 0, 3), [((2, 3, 0), 4)], said_two h0 h24 hi hk (by omega) hlt hi hk (.inr rfl) (fun j h1 h2 => ⟨by omega, by simp [N3, N2, N1, ends]; omega⟩) rfl rfl rfl, fun R hR => ?_⟩
        refine Var_new h0 hi rfl (by simp [ends]) (Var_new h0 hk (by simp [mhas, mfind, mset]; omega) (by simp [ends]) ⟨2, ?_⟩)
        have hb : mset (mset ([] : Mp) (i, 0, 1) 2) (k, 0, 1) 3 = M2 i k := by simp [mset, M2]; omega
        show V_Ite 2 (N2 n i k) [] (mset (mset ([] : Mp) (i, 0, 1) 2) (k, 0, 1) 3) (rng n) (rng n) [] 2 3 0 _
        rw [hb]
        refine And_step (df := i) (dg := k) (l := i) (a := i) (f0 := 0) (f1 := 1) (g0 := 3) (g1 := 3) (by omega) (by omega) (by omega) (by omega) rfl (depth_node (lo := 0) (up := 1) h0 (by omega) ⟨by omega, by simp [N2, N1, ends]⟩ rfl hi) (depth_node (lo := 0) (up := 1) h0 (by omega) ⟨by omega, by simp [N2, N1, ends]⟩ rfl hk) (by rw [rng_length h0]; omega) (by rw [rng_length h0]; exact hi.2)
          (fun R h => split_yes (depth_node (lo := 0) (up := 1) h0 (by omega) ⟨by omega, by simp [N2, N1, ends]⟩ rfl hi) ⟨by omega, by simp [N2, N1, ends]⟩ h) (fun R h => split_no (depth_node (lo := 0) (up := 1) h0 (by omega) ⟨by omega, by simp [N2, N1, ends]⟩ rfl hk) (by omega) h) (rng_in hi.1 hi.2) (rng_ix hi.1 hi.2) ?_
        refine Ite_zero (by omega) (Ite_one (.inl rfl) (make_new (by omega) (by simp [mhas, mfind, M2]) (by simp [N2, N1, ends]) ?_))
        have hb3 : mset (M2 i k) (i, 0, 3) 4 = M3 i k (i, 0, 3) := by simp [mset, M2, M3]
        show R 2 3 4 (N3 n i k (i, 0, 3)) [] (mset (M2 i k) (i, 0, 3) 4) [((2, 3, 0), 4)]
        rw [hb3]; exact hR
      · subst heq
        refine ⟨2, 2, 2, N1 n i, M1 i, [((2, 2, 0), 2)], said_same h0 h24 hi rfl ⟨by omega, by simp [N1, ends]⟩ rfl, fun R hR => ?_⟩
        have hg : mgetD (M1 i) (i, 0, 1) 0 = 2 := by simp [mgetD, mfind, M1]
        have hh : mhas (M1 i) (i, 0, 1) = true := by simp [mhas, mfind, M1]
        refine Var_new h0 hi rfl (by simp [ends]) (Var_hit (ms := M1 i) h0 hi hh ?_)
        rw [hg]
        refine ⟨2, ?_⟩
        show V_Ite 2 (N1 n i) [] (M1 i) (rng n) (rng n) [] 2 2 0 _
        refine And_step (nodes := N1 n i) (df := i) (dg := i) (l := i) (a := i) (f0 := 0) (f1 := 1) (g0 := 0) (g1 := 1) (by decide) (by decide) (by decide) (by decide) rfl (depth_node (lo := 0) (up := 1) h0 (by omega) ⟨by omega, by simp [N1, ends]⟩ rfl hi) (depth_node (lo := 0) (up := 1) h0 (by omega) ⟨by omega, by simp [N1, ends]⟩ rfl hi) (by rw [rng_length h0]; omega) (by rw [rng_length h0]; exact hi.2)
          (fun R h => split_yes (depth_node (lo := 0) (up := 1) h0 (by omega) ⟨by omega, by simp [N1, ends]⟩ rfl hi) ⟨by omega, by simp [N1, ends]⟩ h) (fun R h => split_yes (depth_node (lo := 0) (up := 1) h0 (by omega) ⟨by omega, by simp [N1, ends]⟩ rfl hi) ⟨by omega, by simp [N1, ends]⟩ h) (rng_in hi.1 hi.2) (rng_ix hi.1 hi.2) ?_
        refine Ite_one (.inr rfl) (Ite_one (.inl rfl) (make_hit (by omega) hh ?_))
        rw [hg]; exact hR
      · refine ⟨2, 3, 4, N3 n i k (k, 0, 2), M3 i k (k, 0, 2), [((2, 3, 0), 4)], said_two h0 h24 hi hk (by omega) hgt hk hi (.inl rfl) (fun j h1 h2 => ⟨by omega, by simp [N3, N2, N1, ends]; omega⟩) rfl rfl rfl, fun R hR => ?_⟩
        refine Var_new h0 hi rfl (by simp [ends]) (Var_new h0 hk (by simp [mhas, mfind, mset]; omega) (by simp [ends]) ⟨2, ?_⟩)
        have hb : mset (mset ([] : Mp) (i, 0, 1) 2) (k, 0, 1) 3 = M2 i k := by simp [mset, M2]; omega
        show V_Ite 2 (N2 n i k) [] (mset (mset ([] : Mp) (i, 0, 1) 2) (k, 0, 1) 3) (rng n) (rng n) [] 2 3 0 _
        rw [hb]
        refine And_step (df := i) (dg := k) (l := k) (a := k) (f0 := 2) (f1 := 2) (g0 := 0) (g1 := 1) (by omega) (by omega) (by omega) (by omega) rfl (depth_node (lo := 0) (up := 1) h0 (by omega) ⟨by omega, by simp [N2, N1, ends]⟩ rfl hi) (depth_node (lo := 0) (up := 1) h0 (by omega) ⟨by omega, by simp [N2, N1, ends]⟩ rfl hk) (by rw [rng_length h0]; omega) (by rw [rng_length h0]; exact hk.2)
          (fun R h => split_no (depth_node (lo := 0) (up := 1) h0 (by omega) ⟨by omega, by simp [N2, N1, ends]⟩ rfl hi) (by omega) h) (fun R h => split_yes (depth_node (lo := 0) (up := 1) h0 (by omega) ⟨by omega, by simp [N2, N1, ends]⟩ rfl hk) ⟨by omega, by simp [N2, N1, ends]⟩ h) (rng_in hk.1 hk.2) (rng_ix hk.1 hk.2) ?_
        refine Ite_one (.inr rfl) (Ite_self (by omega) (by omega) (make_new (by omega) (by simp [mhas, mfind, M2]) (by simp [N2, N1, ends]) ?_))
        have hb3 : mset (M2 i k) (k, 0, 2) 4 = M3 i k (k, 0, 2) := by simp [mset, M2, M3]
        show R 2 3 4 (N3 n i k (k, 0, 2)) [] (mset (M2 i k) (k, 0, 2) 4) [((2, 3, 0), 4)]
        rw [hb3]; exact hR
    · refine ⟨2, 0, 0, N1 n i, M1 i, [], said_zero h0 h24 (eval_two rfl ⟨by omega, by simp [N1, ends]⟩ hi) (by simp; exact hi) (fun h => hk h.2), fun R hR => ?_⟩
      exact Var_new h0 hi rfl (by simp [ends]) (Var_none h0 hk ⟨1, Ite_one (.inr rfl) hR⟩)
  · by_cases hk : 0 ≤ k ∧ k < n
    · refine ⟨0, 2, 0, N1 n k, M1 k, [], said_zero h0 h24 (eval_zero rfl hi) (by simp [hi]) (fun h => hi h.1), fun R hR => ?_⟩
      exact Var_none h0 hi (Var_new h0 hk rfl (by simp [ends]) ⟨1, Ite_zero (show (2 : Int) ≠ 0 by omega) hR⟩)
    · refine ⟨0, 0, 0, ends n, [], [], said_zero h0 h24 (eval_zero rfl hi) (by simp [hi]) (fun h => hi h.1), fun R hR => ?_⟩
      exact Var_none h0 hi (Var_none h0 hk ⟨1, Ite_one (.inr rfl) hR⟩)
end
theorem BddNews_ok {n i k : Int} {at_ : List Bool} {Q : Bool → Prop} (h : Q true) : V_BddNews n i k at_ Q := by
  refine New_ok (fun hbad => ⟨fun _ => ⟨fun _ => Error_ok (fun m hm => (by cases hm; unfold I64; omega)) ⟨_, fun _ h => h, fun _ => h, fun hf => by simp at hf⟩, fun hn => absurd hbad hn⟩, fun _ _ _ _ _ _ hT => by cases hT⟩) fun h0 h24 => ⟨fun hT => by (cases hT), ?_⟩
  intro y0 y1 y2 y3 y4 y5 hT
  cases hT
  refine ⟨fun hbad => by omega, fun _ => ⟨_, fun _ h => h, fun hf => absurd rfl hf, fun _ => ⟨fun hf => by (cases hf), fun _ => ?_⟩⟩⟩
  obtain ⟨v, w, x, nodes, ms, memo, ⟨hE, hC, hS, hv⟩, hR⟩ := made (n := n) (i := i) (k := k) (at_ := at_) h0 h24
  refine hR (fun a a' x e1 e2 e3 e4 => _) ?_
  refine hE _ ?_
  refine ⟨fun o => o = oB n i at_, fun o ho => ?_, fun hi _ => ⟨fun hlt => ⟨⟨hi.1, hlt⟩, by rw [oB_yes hi]; simp [hlt]⟩, fun hge => by rw [oB_yes hi]; simp [hge]⟩, fun hi => (oB_no hi).symm⟩
  subst ho
  refine hC _ ?_
  refine ⟨fun c => c = wantOf n i k, fun c hc => ?_, fun hb => ?_, fun hb => by rw [wantOf, if_neg hb]⟩
  · subst hc
    unfold V_False_ V_True_
    refine hS _ ?_
    refine ⟨fun s => s = sizeOf2 n i k, fun s hs => ?_, fun hw => ?_, fun hw => ?_⟩
    · subst hs
      have hbv : (decide (v = 0) == !decide ((0 ≤ i) ∧ (i < n))) = true := by
        by_cases hi : 0 ≤ i ∧ i < n
        · have : ¬ v = 0 := fun e => hv.1 e hi
          simp [this, hi]
        · have : v = 0 := hv.2 hi
          simp [this, hi]
      refine ⟨_, fun _ h => h, fun _ => ⟨fun _ => ⟨fun _ => ⟨fun _ => by simpa using h, fun hf => by rw [hbv] at hf; cases hf⟩, fun hf => absurd (by decide) hf⟩, fun hf => absurd rfl hf⟩, fun hf => by simp at hf⟩
    · have hb : (0 ≤ i ∧ i < n) ∧ (0 ≤ k ∧ k < n) := by
        by_cases hb : (0 ≤ i ∧ i < n) ∧ (0 ≤ k ∧ k < n)
        · exact hb
        · rw [wantOf, if_neg hb] at hw; omega
      refine ⟨fun e => ?_, fun e => ?_⟩
      · show 1 = _; rw [sizeOf2, if_pos hb, if_pos e]
      · show 2 = _; rw [sizeOf2, if_pos hb, if_neg e]
    · have hb : ¬ ((0 ≤ i ∧ i < n) ∧ (0 ≤ k ∧ k < n)) := by
        intro hb
        apply hw
        rw [wantOf, if_pos hb]
        split
        · rw [half (by omega)]; have := pow_pos1 (n.toNat - 1); omega
        · rw [quarter (by omega)]; have := pow_pos1 (n.toNat - 2); omega
      show 0 = _; rw [sizeOf2, if_neg hb]
  · have hI : I64 ((1 : Int) * 2 ^ n.toNat) := by
      have := pow_pos1 n.toNat
      have := pow_le24 (k := n.toNat) (by omega)
      unfold I64; omega
    refine ⟨⟨by omega, by omega, hI⟩, ⟨by decide, ?_⟩, fun e => ⟨⟨by omega, by omega, hI⟩, ⟨by decide, ?_⟩, ?_⟩, fun e => ?_⟩
    · have h1 := Int.tdiv_le_self (a := (1 : Int) * 2 ^ n.toNat) 4 (by have := pow_pos1 n.toNat; omega)
      have h2 := Int.tdiv_nonneg (a := (1 : Int) * 2 ^ n.toNat) (b := 4) (by have := pow_pos1 n.toNat; omega) (by omega)
      unfold I64 at *; omega
    · have h1 := Int.tdiv_le_self (a := (1 : Int) * 2 ^ n.toNat) 2 (by have := pow_pos1 n.toNat; omega)
      have h2 := Int.tdiv_nonneg (a := (1 : Int) * 2 ^ n.toNat) (b := 2) (by have := pow_pos1 n.toNat; omega) (by omega)
      unfold I64 at *; omega
    · show _ = wantOf n i k; rw [wantOf, if_pos hb, if_pos e]
    · show _ = wantOf n i k; rw [wantOf, if_pos hb, if_neg e]
theorem BddNews_law {n i k : Int} {at_ : List Bool} {Q : Bool → Prop} (hn : I64 n) (hi : I64 i) (hk : I64 k) (ha : at_.length * 1 ≤ reachBytes ∧ ∀ x ∈ at_, True) (h : Q true) : V_BddNews n i k at_ Q := BddNews_ok h
end Go.Vc
