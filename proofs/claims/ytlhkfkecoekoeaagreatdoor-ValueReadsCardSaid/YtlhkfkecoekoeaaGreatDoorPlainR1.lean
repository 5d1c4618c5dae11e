/- The document's values in plain words: their order, their weight, sets and functions of them. No program in sight. -/
import Derived.Test.YtlhkfkecoekoeaaGreatDoorPlainV12
set_option linter.unusedVariables false
set_option linter.unusedSimpArgs false
namespace Go.Vc
mutual
def encR : RV → List Int
  | .mk k i t ks vs => k :: i :: (encS t ++ ((ks.length : Int) :: (encRL ks ++ ((vs.length : Int) :: encRL vs))))
def encRL : List RV → List Int
  | [] => []
  | a :: l => encR a ++ encRL l
end
mutual
theorem encR_inj : ∀ {a b : RV} {s t : List Int}, encR a ++ s = encR b ++ t → a = b ∧ s = t
  | .mk k i x ks vs, .mk k' i' x' ks' vs', s, t, h => by
    simp only [encR, List.cons_append, List.cons.injEq, List.append_assoc] at h
    obtain ⟨h1, h2, h3⟩ := h
    obtain ⟨h4, h5⟩ := encS_inj h3
    simp only [List.cons_append, List.cons.injEq] at h5
    obtain ⟨h6, h7⟩ := encRL_inj (by omega) h5.2
    simp only [List.cons_append, List.cons.injEq] at h7
    obtain ⟨h8, h9⟩ := encRL_inj (by omega) h7.2
    exact ⟨by rw [h1, h2, h4, h6, h8], h9⟩
theorem encRL_inj : ∀ {a b : List RV} {s t : List Int}, a.length = b.length → encRL a ++ s = encRL b ++ t → a = b ∧ s = t
  | [], b, s, t, hl, h => by
    cases b with
    | nil => exact ⟨rfl, by simpa [encRL] using h⟩
    | cons => simp at hl
  | x :: a, b, s, t, hl, h => by
    cases b with
    | nil => simp at hl
    | cons y b =>
      simp only [encRL, List.append_assoc] at h
      obtain ⟨e, h2⟩ := encR_inj h
      obtain ⟨e2, h3⟩ := encRL_inj (by simpa using hl) h2
      exact ⟨by rw [e, e2], h3⟩
end
theorem freeR (a b : RV) : Free (encR a) (encR b) := fun s t h => by rw [(encR_inj h).1]
def cmpR (a b : RV) : Int := lc (encR a) (encR b)
theorem cmpR_refl (a : RV) : cmpR a a = 0 := lc_refl _
theorem cmpR_neg (a b : RV) : cmpR b a = - cmpR a b := lc_neg _ _
theorem cmpR_eq {a b : RV} (h : cmpR a b = 0) : a = b := (encR_inj (s := []) (t := []) (by rw [lc_eq h])).1
theorem cmpR_trans {a b c : RV} (h1 : cmpR a b < 0) (h2 : cmpR b c < 0) : cmpR a c < 0 := lc_trans h1 h2
mutual
def szR : RV → Nat
  | .mk _ _ _ ks vs => szRL ks + szRL vs + 1
def szRL : List RV → Nat
  | [] => 0
  | a :: l => szR a + szRL l + 1
end
theorem szRL_mem : ∀ {l : List RV} {a : RV}, a ∈ l → szR a < szRL l
  | b :: l, a, h => by
    rcases List.mem_cons.1 h with rfl | h
    · simp [szRL]; omega
    · have := szRL_mem h; simp [szRL]; omega
theorem szR_ks {a x : RV} (h : x ∈ a.ks) : szR x < szR a := by
  cases a; have := szRL_mem h; simp [szR, RV.ks] at *; omega
theorem szR_vs {a x : RV} (h : x ∈ a.vs) : szR x < szR a := by
  cases a; have := szRL_mem h; simp [szR, RV.vs] at *; omega
theorem rtexts_ok {x y : Str} {Q : Int → Prop} (h : Q (cS x y)) : V_rtexts x y Q := by
  unfold cS at h; simp only [V_rtexts]
  cases h1 : sLt x y <;> by_cases h2 : x = y <;> simp_all
def cmpRL (a b : List RV) : Int := lc ((a.length : Int) :: encRL a) ((b.length : Int) :: encRL b)
theorem freeRL (a b : List RV) : Free ((a.length : Int) :: encRL a) ((b.length : Int) :: encRL b) := fun s t h => by
  simp only [List.cons_append, List.cons.injEq] at h
  rw [(encRL_inj (by omega) h.2).1]
theorem rlists_ok {G : RV → RV → (Int → Prop) → Prop} {a b : List RV} {Q : Int → Prop} (hG : ∀ x ∈ a, ∀ y ∈ b, ∀ Q, Q (cmpR x y) → G x y Q) (h : Q (cmpRL a b)) : V_rlists G a b Q := by
  intro hL _
  unfold cmpRL at h; rw [lc_cons] at h
  unfold Len at hL
  refine ⟨fun hl => ?_, fun hl _ _ => ⟨fun hl2 => ?_, fun hl2 => ?_⟩⟩
  · have e : cI (a.length : Int) b.length = -1 := by unfold cI; rw [if_pos hl]
    rw [e] at h; simpa using h
  · have e : cI (a.length : Int) b.length = 1 := by unfold cI; rw [if_neg hl, if_pos hl2]
    rw [e] at h; simpa using h
  · have e : cI (a.length : Int) b.length = 0 := by unfold cI; rw [if_neg hl, if_neg hl2]
    rw [e, if_pos rfl] at h
    refine ⟨fun k => 0 ≤ k ∧ k ≤ a.length ∧ lc (encRL (a.drop k.toNat)) (encRL (b.drop k.toNat)) = lc (encRL a) (encRL b), fun k => (a.length - k).toNat, ⟨by simp, by simp, by simp⟩, ?_⟩
    show ∀ k : Int, _ → _
    rintro k ⟨k0, k1, k2⟩ _
    refine ⟨fun hk => ⟨⟨k0, hk⟩, fun _ _ => ⟨⟨k0, by omega⟩, fun _ _ => ?_⟩⟩, fun hn => ?_⟩
    · have ma := ix_mem k0 hk; have mb := ix_mem (l := b) k0 (by omega)
      refine hG _ ma _ mb _ ?_
      rw [drop_ix k0 hk, drop_ix (l := b) k0 (by omega)] at k2
      simp only [encRL] at k2
      rw [lc_app (freeR _ _)] at k2
      refine ⟨fun hn => ?_, fun hn => ⟨by unfold I64; omega, ⟨by omega, by omega, ?_⟩, by show (_ : Int).toNat < (_ : Int).toNat; omega⟩⟩
      · unfold cmpR at hn ⊢; rw [if_neg hn] at k2; rw [k2]; exact h
      · have hn : lc (encR (ix a k)) (encR (ix b k)) = 0 := by simpa [cmpR] using hn
        rw [if_pos hn] at k2; exact k2
    · have : k = a.length := by omega
      subst this
      rw [List.drop_of_length_le (by simp), List.drop_of_length_le (by simp; omega)] at k2
      rw [← k2] at h; simpa [encRL, lc] using h
theorem cmpR_parts (a b : RV) : cmpR a b = if cI a.k b.k = 0 then (if cI a.i b.i = 0 then (if cS a.t b.t = 0 then (if cmpRL a.ks b.ks = 0 then cmpRL a.vs b.vs else cmpRL a.ks b.ks) else cS a.t b.t) else cI a.i b.i) else cI a.k b.k := by
  obtain ⟨k, i, t, ks, vs⟩ := a
  obtain ⟨k', i', t', ks', vs'⟩ := b
  unfold cmpR
  simp only [encR, lc_cons, RV.k, RV.i, RV.t, RV.ks, RV.vs]
  have e1 := lc_app (free_encS (x := t) (y := t')) ((ks.length : Int) :: (encRL ks ++ ((vs.length : Int) :: encRL vs))) ((ks'.length : Int) :: (encRL ks' ++ ((vs'.length : Int) :: encRL vs')))
  have e2 := lc_app (freeRL ks ks') ((vs.length : Int) :: encRL vs) ((vs'.length : Int) :: encRL vs')
  simp only [List.cons_append] at e2
  rw [e1, e2, cS_enc]
  rfl
theorem rCompare_ok : ∀ (m : Nat) {a b : RV} {Q : Int → Prop}, szR a < m → Q (cmpR a b) → V_rCompare m a b Q
  | 0, _, _, _, h, _ => absurd h (by omega)
  | m + 1, a, b, Q, hm, h => by
    rw [cmpR_parts] at h
    unfold V_rCompare
    refine ⟨fun h1 => ?_, fun h1 => ⟨fun h2 => ?_, fun h2 => ?_⟩⟩
    · have e : cI a.k b.k = -1 := by unfold cI; rw [if_pos h1]
      rw [e] at h; simpa using h
    · have e : cI a.k b.k = 1 := by unfold cI; rw [if_neg h1, if_pos h2]
      rw [e] at h; simpa using h
    have e : cI a.k b.k = 0 := by unfold cI; rw [if_neg h1, if_neg h2]
    rw [e, if_pos rfl] at h
    refine ⟨fun h1 => ?_, fun h1 => ⟨fun h2 => ?_, fun h2 => ?_⟩⟩
    · have e : cI a.i b.i = -1 := by unfold cI; rw [if_pos h1]
      rw [e] at h; simpa using h
    · have e : cI a.i b.i = 1 := by unfold cI; rw [if_neg h1, if_pos h2]
      rw [e] at h; simpa using h
    have e : cI a.i b.i = 0 := by unfold cI; rw [if_neg h1, if_neg h2]
    rw [e, if_pos rfl] at h
    have gk : ∀ x ∈ a.ks, ∀ y ∈ b.ks, ∀ Q, Q (cmpR x y) → V_rCompare m x y Q := fun x hx y _ Q hQ => rCompare_ok m (by have := szR_ks hx; omega) hQ
    have gv : ∀ x ∈ a.vs, ∀ y ∈ b.vs, ∀ Q, Q (cmpR x y) → V_rCompare m x y Q := fun x hx y _ Q hQ => rCompare_ok m (by have := szR_vs hx; omega) hQ
    refine rtexts_ok (VMeet_go ⟨fun h0 => ?_, fun h0 => VMeet_go ⟨fun hn => absurd hn h0, fun _ => ?_⟩⟩)
    · rw [if_pos h0] at h
      refine rlists_ok gk (VMeet_go ⟨fun h0 => ?_, fun h0 => ?_⟩)
      · rw [if_pos h0] at h; exact rlists_ok gv h
      · rw [if_neg h0] at h; exact h
    · rw [if_neg h0] at h; exact h
mutual
def wtR : RV → Int
  | .mk _ _ _ ks vs => 1 + wtRL ks + wtRL vs
def wtRL : List RV → Int
  | [] => 0
  | a :: l => wtR a + wtRL l
end
mutual
theorem wtR_pos : ∀ a, 1 ≤ wtR a
  | .mk _ _ _ ks vs => by have := wtRL_nn ks; have := wtRL_nn vs; simp [wtR]; omega
theorem wtRL_nn : ∀ l, (0 : Int) ≤ wtRL l
  | [] => by simp [wtRL]
  | a :: l => by have := wtR_pos a; have := wtRL_nn l; simp [wtRL]; omega
end
theorem wtRL_app : ∀ a b, wtRL (a ++ b) = wtRL a + wtRL b
  | [], b => by simp [wtRL]
  | x :: a, b => by simp [wtRL, wtRL_app a b]; omega
theorem wtRL_take (l : List RV) (k : Nat) : wtRL (l.take k) ≤ wtRL l := by
  have : wtRL l = wtRL (l.take k) + wtRL (l.drop k) := by rw [← wtRL_app, List.take_append_drop]
  have := wtRL_nn (l.drop k); omega
theorem wtRL_mem {l : List RV} {a : RV} (h : a ∈ l) : wtR a ≤ wtRL l := by
  induction l with
  | nil => cases h
  | cons b l ih =>
    have := wtRL_nn l; have := wtR_pos b
    rcases List.mem_cons.1 h with rfl | h
    · simp [wtRL]; omega
    · have := ih h; simp [wtRL]; omega
theorem rWeight_ok : ∀ (m : Nat) {v : RV} {Q : Int → Prop}, szR v < m → wtR v ≤ 1000000000000 → Q (wtR v) → V_rWeight m v Q
  | 0, _, _, h, _, _ => absurd h (by omega)
  | m + 1, v, Q, hm, hw, h => by
    have ew : wtR v = 1 + wtRL v.ks + wtRL v.vs := by cases v; rfl
    have n1 := wtRL_nn v.ks; have n2 := wtRL_nn v.vs
    unfold V_rWeight
    refine ⟨fun s => 0 ≤ s.2 ∧ s.2 ≤ v.ks.length ∧ s.1 = 1 + wtRL (v.ks.take s.2.toNat), fun s => (v.ks.length - s.2).toNat, ⟨by simp, by simp, by simp [wtRL]⟩, ?_⟩
    rintro ⟨n, k⟩ ⟨k0, k1, e⟩
    simp only at k0 k1 e
    intro hL
    unfold Len at hL
    refine ⟨fun hk => ⟨⟨k0, hk⟩, fun _ _ => ?_⟩, fun hk => ?_⟩
    · have mk := ix_mem k0 hk
      have := wtRL_mem mk; have := wtR_pos (ix v.ks k)
      have t1 := wtRL_take v.ks k.toNat
      have t0 := wtRL_nn (v.ks.take k.toNat)
      refine rWeight_ok m (by have := szR_ks mk; omega) (by omega) ⟨by unfold I64; omega, by unfold I64; omega, ⟨by show 0 ≤ k + 1; omega, by show k + 1 ≤ _; omega, ?_⟩, by show (_ : Int).toNat < (_ : Int).toNat; omega⟩
      show n + wtR (ix v.ks k) = 1 + wtRL (v.ks.take (k + 1).toNat)
      rw [take_ix k0 hk, wtRL_app]; simp [wtRL]; omega
    · have hk : k = v.ks.length := by omega
      subst hk
      rw [List.take_of_length_le (by simp)] at e
      refine ⟨fun s => 0 ≤ s.2 ∧ s.2 ≤ v.vs.length ∧ s.1 = 1 + wtRL v.ks + wtRL (v.vs.take s.2.toNat), fun s => (v.vs.length - s.2).toNat, ⟨by simp, by simp, by simp [wtRL]; omega⟩, ?_⟩
      rintro ⟨n, k⟩ ⟨k0, k1, e⟩
      simp only at k0 k1 e
      intro hL
      unfold Len at hL
      refine ⟨fun hk => ⟨⟨k0, hk⟩, fun _ _ => ?_⟩, fun hk => ?_⟩
      · have mk := ix_mem k0 hk
        have := wtRL_mem mk; have := wtR_pos (ix v.vs k)
        have t1 := wtRL_take v.vs k.toNat
        have t0 := wtRL_nn (v.vs.take k.toNat)
        refine rWeight_ok m (by have := szR_vs mk; omega) (by omega) ⟨by unfold I64; omega, by unfold I64; omega, ⟨by show 0 ≤ k + 1; omega, by show k + 1 ≤ _; omega, ?_⟩, by show (_ : Int).toNat < (_ : Int).toNat; omega⟩
        show n + wtR (ix v.vs k) = 1 + wtRL v.ks + wtRL (v.vs.take (k + 1).toNat)
        rw [take_ix k0 hk, wtRL_app]; simp [wtRL]; omega
      · have hk : k = v.vs.length := by omega
        subst hk
        rw [List.take_of_length_le (by simp)] at e
        rw [ew] at h; rw [e]; exact h
def nilR : RV := .mk 0 0 [] [] []
def lightR (v : RV) : RV := if wtR v ≤ 1024 then v else nilR
theorem rLight_ok {v : RV} {Q : RV → Prop} (hw : wtR v ≤ 1000000000000) (h : Q (lightR v)) : V_rLight v Q := by
  unfold lightR at h
  refine ⟨szR v + 1, rWeight_ok _ (by omega) hw ⟨fun hn => ?_, fun hn => ?_⟩⟩
  · rw [if_neg (by omega)] at h; exact h
  · rw [if_pos (by omega)] at h; exact h
theorem lightR_le (v : RV) : wtR (lightR v) ≤ 1024 := by
  unfold lightR; split
  · assumption
  · simp [nilR, wtR, wtRL]
def AscR (l : List RV) : Prop := l.Pairwise fun a b => cmpR a b < 0
theorem split_at {α : Type} {l : List α} {i : Int} (h0 : 0 ≤ i) (h1 : i ≤ l.length) : ∃ A B, l = A ++ B ∧ i = A.length := ⟨l.take i.toNat, l.drop i.toNat, by rw [List.take_append_drop], by simp; omega⟩
theorem rplace_ok {l : List RV} {v : RV} {Q : Int → Bool → Prop} (ha : AscR l) (hl : l.length ≤ 1000000) (hf : ∀ p, v ∈ l → Q p true)
    (hn : ∀ A B, l = A ++ B → (∀ x ∈ A, cmpR x v < 0) → (∀ x ∈ B, cmpR v x < 0) → Q (A.length : Int) false) : V_rplace l v Q := by
  intro hL
  refine ⟨fun s => 0 ≤ s.1 ∧ s.1 ≤ s.2 ∧ s.2 ≤ l.length ∧ (∀ x ∈ l.take s.1.toNat, cmpR x v < 0) ∧ ∀ x ∈ l.drop s.2.toNat, cmpR v x < 0, fun s => (s.2 - s.1).toNat, ⟨by simp, by simp, by simp, by simp, by simp⟩, ?_⟩
  rintro ⟨a, b⟩ ⟨g0, g1, g2, g3, g4⟩
  simp only at g0 g1 g2 g3 g4
  refine ⟨fun hab => ?_, fun hab => ?_⟩
  · have em : (a + b).tdiv 2 = (a + b) / 2 := Int.tdiv_eq_ediv_of_nonneg (by omega)
    rw [em]
    have m0 : 0 ≤ (a + b) / 2 := by omega
    have m1 : (a + b) / 2 < l.length := by omega
    have mem := ix_mem m0 m1
    refine ⟨by unfold I64; omega, ⟨by decide, by unfold I64; omega⟩, ⟨m0, m1⟩, fun _ _ => ⟨_, rCompare_ok _ (Nat.lt_succ_self _) ⟨fun h0 => ?_, fun h0 => ⟨fun h1 => ⟨by unfold I64; omega, ⟨by show 0 ≤ (a + b) / 2 + 1; omega, by show (a + b) / 2 + 1 ≤ b; omega, g2, ?_, g4⟩, by show (b - ((a + b) / 2 + 1)).toNat < (b - a).toNat; omega⟩, fun h1 => ⟨⟨g0, by show a ≤ (a + b) / 2; omega, by show (a + b) / 2 ≤ _; omega, g3, ?_⟩, by show ((a + b) / 2 - a).toNat < (b - a).toNat; omega⟩⟩⟩⟩⟩
    · rw [← cmpR_eq h0] at hf; exact hf _ mem
    · intro x hx
      have hx : x ∈ l.take ((a + b) / 2 + 1).toNat := hx
      rw [take_ix m0 m1] at hx
      rcases List.mem_append.1 hx with hx | hx
      · obtain ⟨A, B, e, hA⟩ := split_at m0 (by omega : (a + b) / 2 ≤ (l.length : Int))
        have hd := drop_ix m0 m1
        have hl2 : l = l.take ((a + b) / 2).toNat ++ (ix l ((a + b) / 2) :: l.drop ((a + b) / 2 + 1).toNat) := by rw [← hd, List.take_append_drop]
        unfold AscR at ha
        rw [hl2] at ha
        exact cmpR_trans ((List.pairwise_append.1 ha).2.2 x hx _ (by simp)) h1
      · rw [List.mem_singleton.1 hx]; exact h1
    · intro x hx
      have hx : x ∈ l.drop ((a + b) / 2).toNat := hx
      have h2 : cmpR v (ix l ((a + b) / 2)) < 0 := by have := cmpR_neg (ix l ((a + b) / 2)) v; omega
      rw [drop_ix m0 m1] at hx
      rcases List.mem_cons.1 hx with rfl | hx
      · exact h2
      · have hd := drop_ix m0 m1
        have hl2 : l = l.take ((a + b) / 2).toNat ++ (ix l ((a + b) / 2) :: l.drop ((a + b) / 2 + 1).toNat) := by rw [← hd, List.take_append_drop]
        unfold AscR at ha
        rw [hl2] at ha
        exact cmpR_trans h2 ((List.pairwise_cons.1 (List.pairwise_append.1 ha).2.1).1 x hx)
  · have : a = b := by omega
    subst this
    have e : a = ((l.take a.toNat).length : Int) := by simp; omega
    rw [e]
    exact hn _ _ (List.take_append_drop a.toNat l).symm g3 g4
theorem room80 {k : Nat} (h : k ≤ 1000001) : Room k 80 := ⟨by omega, by unfold maxLen; omega⟩
theorem rput_ok {A B : List RV} {v : RV} {Q : List RV → Prop} (hl : (A ++ B).length ≤ 1000000) (h : Q (A ++ v :: B)) : V_rput (A ++ B) (A.length : Int) v Q := by
  simp only [List.length_append] at hl
  refine ⟨room80 (by simp; omega), fun _ => ⟨by unfold I64; simp; omega, ?_⟩⟩
  refine ⟨fun s => ∃ B1 x B2, B = B1 ++ B2 ∧ s.1 = A ++ B1 ++ x :: B2 ∧ s.2 = A.length + B1.length, fun s => (s.2 - A.length).toNat, ⟨B, .mk 0 0 [] [] [], [], by simp, by simp, by simp; omega⟩, ?_⟩
  rintro ⟨l, k⟩ ⟨B1, x, B2, e1, e2, e3⟩
  simp only at e2 e3
  subst e1 e2
  simp only [List.length_append] at hl
  refine ⟨fun hk => ?_, fun hk => ?_⟩
  · have hne : B1 ≠ [] := by rintro rfl; simp at e3; omega
    obtain ⟨B1, y, rfl⟩ := snoc_split hne
    simp only [List.length_append, List.length_singleton] at e3 hl
    have l1 : A ++ (B1 ++ [y]) ++ x :: B2 = (A ++ B1) ++ y :: (x :: B2) := by simp
    have ey : ix (A ++ (B1 ++ [y]) ++ x :: B2) (k - 1) = y := by rw [l1]; exact ix_app (by simp; omega)
    refine ⟨by unfold I64; omega, ⟨by omega, by simp; omega⟩, fun _ _ => ⟨⟨by omega, by simp; omega⟩, by unfold I64; omega, ⟨B1, y, y :: B2, by simp, ?_, by show k - 1 = _; omega⟩, by show (k - 1 - (A.length : Int)).toNat < (k - (A.length : Int)).toNat; omega⟩⟩
    show (A ++ (B1 ++ [y]) ++ x :: B2).set k.toNat (ix (A ++ (B1 ++ [y]) ++ x :: B2) (k - 1)) = _
    rw [ey, set_app (by simp; omega)]; simp
  · have : B1 = [] := by cases B1 with
      | nil => rfl
      | cons => simp at e3; omega
    subst this
    refine ⟨⟨by omega, by simp; omega⟩, ?_⟩
    simp only [List.append_nil, List.nil_append] at h ⊢
    rw [set_app rfl]; exact h
def insR (a : RV) : List RV → List RV
  | [] => [a]
  | b :: l => if cmpR a b < 0 then a :: b :: l else if cmpR a b = 0 then b :: l else b :: insR a l
def canonR (l : List RV) : List RV := l.foldl (fun s a => insR a s) []
def setR (l : List RV) : RV := lightR (.mk 5 0 [] (canonR l) [])
theorem insR_mid {a : RV} : ∀ {A B : List RV}, (∀ x ∈ A, cmpR x a < 0) → (∀ x ∈ B, cmpR a x < 0) → insR a (A ++ B) = A ++ a :: B
  | [], [], _, _ => rfl
  | [], b :: B, _, h => by simp [insR, h b (by simp)]
  | x :: A, B, h1, h2 => by
    have h3 := h1 x (by simp)
    have := cmpR_neg x a
    simp only [List.cons_append, insR]
    rw [if_neg (by omega), if_neg (by omega), insR_mid (fun y hy => h1 y (by simp [hy])) h2]
theorem insR_there {a : RV} : ∀ {l : List RV}, AscR l → a ∈ l → insR a l = l
  | b :: l, ha, h => by
    have ha' := List.pairwise_cons.1 ha
    simp only [insR]
    rcases List.mem_cons.1 h with rfl | h
    · rw [cmpR_refl]; simp
    · have h3 := ha'.1 a h
      have := cmpR_neg b a
      rw [if_neg (by omega), if_neg (by omega), insR_there ha'.2 h]
theorem insR_cases {a : RV} {l : List RV} (ha : AscR l) : (a ∈ l ∧ insR a l = l) ∨ ∃ A B, l = A ++ B ∧ insR a l = A ++ a :: B ∧ (∀ x ∈ A, cmpR x a < 0) ∧ ∀ x ∈ B, cmpR a x < 0 := by
  induction l with
  | nil => exact Or.inr ⟨[], [], rfl, rfl, by simp, by simp⟩
  | cons b l ih =>
    have ha' := List.pairwise_cons.1 ha
    by_cases h1 : cmpR a b < 0
    · refine Or.inr ⟨[], b :: l, rfl, by simp [insR, h1], by simp, fun x hx => ?_⟩
      rcases List.mem_cons.1 hx with rfl | hx
      · exact h1
      · exact cmpR_trans h1 (ha'.1 x hx)
    · by_cases h2 : cmpR a b = 0
      · have := cmpR_eq h2; subst this
        exact Or.inl ⟨by simp, by simp [insR, cmpR_refl]⟩
      · have h3 : cmpR b a < 0 := by have := cmpR_neg a b; omega
        rcases ih ha'.2 with ⟨m, e⟩ | ⟨A, B, e1, e2, h4, h5⟩
        · exact Or.inl ⟨by simp [m], by simp [insR, h1, h2, e]⟩
        · refine Or.inr ⟨b :: A, B, by rw [e1]; rfl, by simp [insR, h1, h2, e2], fun x hx => ?_, h5⟩
          rcases List.mem_cons.1 hx with rfl | hx
          · exact h3
          · exact h4 x hx
theorem insR_asc {a : RV} {l : List RV} (ha : AscR l) : AscR (insR a l) := by
  rcases insR_cases (a := a) ha with ⟨_, e⟩ | ⟨A, B, e1, e2, h4, h5⟩
  · rw [e]; exact ha
  · rw [e2]
    unfold AscR at ha ⊢
    rw [e1] at ha
    obtain ⟨p1, p2, p3⟩ := List.pairwise_append.1 ha
    refine List.pairwise_append.2 ⟨p1, List.pairwise_cons.2 ⟨h5, p2⟩, fun x hx y hy => ?_⟩
    rcases List.mem_cons.1 hy with rfl | hy
    · exact h4 x hx
    · exact p3 x hx y hy
theorem insR_len (a : RV) (l : List RV) : (insR a l).length ≤ l.length + 1 := by
  induction l with
  | nil => simp [insR]
  | cons b l ih =>
    simp only [insR]; split
    · simp
    · split <;> simp <;> omega
theorem insR_wt (a : RV) (l : List RV) : wtRL (insR a l) ≤ wtRL l + wtR a := by
  have := wtR_pos a
  induction l with
  | nil => simp [insR, wtRL]
  | cons b l ih =>
    simp only [insR]; split
    · simp [wtRL]; omega
    · split <;> simp [wtRL] <;> omega
theorem fold_insR : ∀ {l s : List RV}, AscR s → AscR (l.foldl (fun s a => insR a s) s) ∧ (l.foldl (fun s a => insR a s) s).length ≤ s.length + l.length ∧ wtRL (l.foldl (fun s a => insR a s) s) ≤ wtRL s + wtRL l
  | [], s, h => by simpa [wtRL] using h
  | a :: l, s, h => by
    obtain ⟨h1, h2, h3⟩ := fold_insR (l := l) (insR_asc (a := a) h)
    have := insR_len a s; have := insR_wt a s
    refine ⟨h1, ?_, ?_⟩
    · simp only [List.foldl_cons, List.length_cons]; omega
    · simp only [List.foldl_cons, wtRL]; omega
theorem rSetOf_ok {l : List RV} {Q : RV → Prop} (hl : l.length ≤ 1000000) (hw : wtRL l ≤ 100000000000) (h : Q (setR l)) : V_rSetOf l Q := by
  refine ⟨fun s => 0 ≤ s.2 ∧ s.2 ≤ l.length ∧ s.1 = (l.take s.2.toNat).foldl (fun s a => insR a s) [], fun s => (l.length - s.2).toNat, ⟨by simp, by simp, by simp⟩, ?_⟩
  rintro ⟨c, k⟩ ⟨k0, k1, e⟩
  simp only at k0 k1 e
  subst e
  intro _
  obtain ⟨f1, f2, f3⟩ := fold_insR (l := l.take k.toNat) (s := []) List.Pairwise.nil
  have tl : (l.take k.toNat).length ≤ l.length := by simp; omega
  simp only [List.length_nil, wtRL] at f2 f3
  refine ⟨fun hk => VMeet_go ⟨⟨k0, hk⟩, fun _ _ => ?_⟩, fun hk => ?_⟩
  · have e1 : (l.take (k + 1).toNat).foldl (fun s a => insR a s) [] = insR (ix l k) ((l.take k.toNat).foldl (fun s a => insR a s) []) := by rw [take_ix k0 hk, List.foldl_append]; rfl
    have nxt : ∀ c, c = insR (ix l k) ((l.take k.toNat).foldl (fun s a => insR a s) []) → I64 (k + 1) ∧ ((fun s : List RV × Int => 0 ≤ s.2 ∧ s.2 ≤ l.length ∧ s.1 = (l.take s.2.toNat).foldl (fun s a => insR a s) []) (c, k + 1) ∧ ((l.length : Int) - (k + 1)).toNat < ((l.length : Int) - k).toNat) := fun c hc => ⟨by unfold I64; omega, ⟨by show 0 ≤ k + 1; omega, by show k + 1 ≤ _; omega, by rw [hc]; exact e1.symm⟩, by omega⟩
    generalize (l.take k.toNat).foldl (fun s a => insR a s) [] = c at *
    refine rplace_ok f1 (by omega) (fun p hm => ⟨fun hn => by simp at hn, fun _ => nxt c (insR_there f1 hm).symm⟩) (fun A B hAB hA hB => ⟨fun _ => ⟨⟨k0, hk⟩, fun _ _ => ?_⟩, fun hn => by simp at hn⟩)
    subst hAB
    exact rput_ok (by omega) (nxt _ (insR_mid hA hB).symm)
  · have : k = l.length := by omega
    subst this
    simp only [Int.toNat_natCast, List.take_length] at f3 ⊢
    refine rLight_ok ?_ h
    simp only [wtR, wtRL]; omega
abbrev RP := RV × RV
def insPR (k v : RV) : List RP → List RP
  | [] => [(k, v)]
  | b :: l => if cmpR k b.1 < 0 then (k, v) :: b :: l else if cmpR k b.1 = 0 then b :: l else b :: insPR k v l
def canonPR (ps : List RP) : List RP := ps.foldl (fun s p => insPR p.1 p.2 s) []
def funR (k v : List RV) : RV := lightR (.mk 6 0 [] ((canonPR (k.zip v)).map (·.1)) ((canonPR (k.zip v)).map (·.2)))
theorem insPR_keys (k v : RV) : ∀ l, (insPR k v l).map (·.1) = insR k (l.map (·.1))
  | [] => rfl
  | b :: l => by
    simp only [insPR, List.map_cons, insR]; split
    · simp
    · split
      · simp
      · simp [insPR_keys k v l]
theorem insPR_mid {k v : RV} : ∀ {A B : List RP}, (∀ x ∈ A, cmpR x.1 k < 0) → (∀ x ∈ B, cmpR k x.1 < 0) → insPR k v (A ++ B) = A ++ (k, v) :: B
  | [], [], _, _ => rfl
  | [], b :: B, _, h => by simp [insPR, h b (by simp)]
  | x :: A, B, h1, h2 => by
    have h3 := h1 x (by simp)
    have := cmpR_neg x.1 k
    simp only [List.cons_append, insPR]
    rw [if_neg (by omega), if_neg (by omega), insPR_mid (fun y hy => h1 y (by simp [hy])) h2]
theorem insPR_there {k v : RV} : ∀ {l : List RP}, AscR (l.map (·.1)) → k ∈ l.map (·.1) → insPR k v l = l
  | b :: l, ha, h => by
    have ha' := List.pairwise_cons.1 ha
    simp only [insPR]
    rcases List.mem_cons.1 h with rfl | h
    · rw [cmpR_refl]; simp
    · have h3 : cmpR b.1 k < 0 := ha'.1 k h
      have := cmpR_neg b.1 k
      rw [if_neg (by omega), if_neg (by omega), insPR_there ha'.2 h]
def wtP : List RP → Int
  | [] => 0
  | p :: l => wtR p.1 + wtR p.2 + wtP l
theorem wtP_eq : ∀ l : List RP, wtP l = wtRL (l.map (·.1)) + wtRL (l.map (·.2))
  | [] => by simp [wtP, wtRL]
  | p :: l => by simp [wtP, wtRL, wtP_eq l]; omega
theorem insPR_wt (k v : RV) (l : List RP) : wtP (insPR k v l) ≤ wtP l + wtR k + wtR v ∧ (insPR k v l).length ≤ l.length + 1 := by
  have := wtR_pos k; have := wtR_pos v
  induction l with
  | nil => simp [insPR, wtP]
  | cons b l ih =>
    simp only [insPR]; split
    · simp [wtP]; omega
    · split
      · simp [wtP]; omega
      · simp [wtP]; omega
theorem fold_insPR : ∀ {l s : List RP}, AscR (s.map (·.1)) → AscR ((l.foldl (fun s p => insPR p.1 p.2 s) s).map (·.1)) ∧ (l.foldl (fun s p => insPR p.1 p.2 s) s).length ≤ s.length + l.length ∧ wtP (l.foldl (fun s p => insPR p.1 p.2 s) s) ≤ wtP s + wtP l
  | [], s, h => by simpa [wtP] using h
  | a :: l, s, h => by
    obtain ⟨h1, h2, h3⟩ := fold_insPR (l := l) (s := insPR a.1 a.2 s) (by rw [insPR_keys]; exact insR_asc h)
    have := insPR_wt a.1 a.2 s
    refine ⟨h1, ?_, ?_⟩
    · simp only [List.foldl_cons, List.length_cons]; omega
    · simp only [List.foldl_cons, wtP]; omega
theorem rFunOf_ok {ks vs : List RV} {Q : RV → Prop} (hl : ks.length ≤ 1000000) (hkv : ks.length = vs.length) (hw : wtRL ks + wtRL vs ≤ 100000000000) (h : Q (funR ks vs)) : V_rFunOf ks vs Q := by
  have ez : (ks.zip vs).length = ks.length := by simp; omega
  refine ⟨fun s => 0 ≤ s.2.2 ∧ s.2.2 ≤ ks.length ∧ s.1 = (((ks.zip vs).take s.2.2.toNat).foldl (fun s p => insPR p.1 p.2 s) []).map (·.1) ∧ s.2.1 = (((ks.zip vs).take s.2.2.toNat).foldl (fun s p => insPR p.1 p.2 s) []).map (·.2), fun s => (ks.length - s.2.2).toNat, ⟨by simp, by simp, by simp, by simp⟩, ?_⟩
  rintro ⟨c, d, k⟩ ⟨k0, k1, e, e'⟩
  simp only at k0 k1 e e'
  subst e e'
  intro _
  obtain ⟨f1, f2, f3⟩ := fold_insPR (l := (ks.zip vs).take k.toNat) (s := []) List.Pairwise.nil
  have tl : ((ks.zip vs).take k.toNat).length ≤ ks.length := by simp; omega
  simp only [List.length_nil, wtP] at f2 f3
  refine ⟨fun hk => VMeet_go ⟨⟨k0, hk⟩, fun _ _ => ?_⟩, fun hk => ?_⟩
  · have hk : k < (ks.length : Int) := hk
    have hz : ix (ks.zip vs) k = (ix ks k, ix vs k) := by
      have h2 : k.toNat < ks.length := by omega
      have h3 : k.toNat < vs.length := by omega
      have h4 : k.toNat < (ks.zip vs).length := by omega
      simp only [ix, List.getD_eq_getElem?_getD]
      rw [List.getElem?_eq_getElem h4, List.getElem?_eq_getElem h2, List.getElem?_eq_getElem h3]
      simp
    have e1 : ((ks.zip vs).take (k + 1).toNat).foldl (fun s p => insPR p.1 p.2 s) [] = insPR (ix ks k) (ix vs k) (((ks.zip vs).take k.toNat).foldl (fun s p => insPR p.1 p.2 s) []) := by rw [take_ix k0 (by omega), List.foldl_append, hz]; rfl
    have nxt : ∀ c, c = insPR (ix ks k) (ix vs k) (((ks.zip vs).take k.toNat).foldl (fun s p => insPR p.1 p.2 s) []) → I64 (k + 1) ∧ ((fun s : List RV × List RV × Int => 0 ≤ s.2.2 ∧ s.2.2 ≤ ks.length ∧ s.1 = (((ks.zip vs).take s.2.2.toNat).foldl (fun s p => insPR p.1 p.2 s) []).map (·.1) ∧ s.2.1 = (((ks.zip vs).take s.2.2.toNat).foldl (fun s p => insPR p.1 p.2 s) []).map (·.2)) (c.map (·.1), c.map (·.2), k + 1) ∧ ((ks.length : Int) - (k + 1)).toNat < ((ks.length : Int) - k).toNat) := fun c hc => ⟨by unfold I64; omega, ⟨by show 0 ≤ k + 1; omega, by show k + 1 ≤ _; omega, by show c.map (·.1) = _; rw [hc, e1], by show c.map (·.2) = _; rw [hc, e1]⟩, by omega⟩
    generalize ((ks.zip vs).take k.toNat).foldl (fun s p => insPR p.1 p.2 s) [] = c at *
    refine rplace_ok f1 (by simp; omega) (fun p hm => ⟨fun hn => by simp at hn, fun _ => nxt c (insPR_there f1 hm).symm⟩) (fun A B hAB hA hB => ⟨fun _ => ⟨⟨k0, hk⟩, fun _ _ => ?_⟩, fun hn => by simp at hn⟩)
    obtain ⟨A2, B2, rfl, hA2, hB2⟩ : ∃ A2 B2, c = A2 ++ B2 ∧ A2.map (·.1) = A ∧ B2.map (·.1) = B := by
      refine ⟨c.take A.length, c.drop A.length, (List.take_append_drop ..).symm, ?_, ?_⟩
      · rw [List.map_take, hAB]; simp
      · rw [List.map_drop, hAB]; simp
    subst hA2 hB2
    have hlen : ((A2 ++ B2).map (·.1)).length ≤ 1000000 := by simp at f2 ⊢; omega
    rw [List.map_append] at hlen ⊢
    have em : insPR (ix ks k) (ix vs k) (A2 ++ B2) = A2 ++ (ix ks k, ix vs k) :: B2 := insPR_mid (fun x hx => hA x.1 (List.mem_map_of_mem hx)) (fun x hx => hB x.1 (List.mem_map_of_mem hx))
    refine rput_ok hlen ⟨⟨k0, by omega⟩, fun _ _ => ?_⟩
    rw [List.map_append, show ((A2.map (·.1)).length : Int) = ((A2.map (·.2)).length : Int) by simp]
    refine rput_ok (by simp at hlen ⊢; omega) ?_
    have := nxt _ em.symm
    simpa using this
  · have : k = ks.length := by omega
    subst this
    have ef : (ks.zip vs).take ((ks.length : Int)).toNat = ks.zip vs := List.take_of_length_le (by simp; omega)
    rw [ef] at f3 ⊢
    have z := wtP_eq (ks.zip vs)
    have z1 : (ks.zip vs).map (·.1) = ks := by rw [List.map_fst_zip]; omega
    have z2 : (ks.zip vs).map (·.2) = vs := by rw [List.map_snd_zip]; omega
    rw [z1, z2] at z
    have f3' : wtP (canonPR (ks.zip vs)) ≤ 0 + wtP (ks.zip vs) := f3
    refine rLight_ok (Int.le_trans (Int.le_of_eq (b := 1 + wtP (canonPR (ks.zip vs))) ?_) (by omega)) h
    rw [wtP_eq, ← Int.add_assoc]; rfl
def numR (n : Int) : RV := .mk 2 n [] [] []
def numsR (n : Nat) : List RV := (List.range n).map fun k : Nat => numR ((k : Int) + 1)
def seqR (l : List RV) : RV := lightR (.mk 6 0 [] (numsR l.length) l)
theorem numsR_wt : ∀ n, wtRL (numsR n) = n := by
  intro n
  induction n with
  | zero => simp [numsR, wtRL]
  | succ n ih => rw [show numsR (n + 1) = numsR n ++ [numR ((n : Int) + 1)] by simp [numsR, List.range_succ], wtRL_app, ih]; simp [wtRL, numR, wtR]
theorem rSeqOf_ok {l : List RV} {Q : RV → Prop} (hl : l.length ≤ 1000000) (hw : wtRL l ≤ 100000000000) (h : Q (seqR l)) : V_rSeqOf l Q := by
  refine ⟨fun s => 0 ≤ s.2.2 ∧ s.2.2 ≤ l.length ∧ s.1 = numsR s.2.2.toNat ∧ s.2.1 = l.take s.2.2.toNat, fun s => (l.length - s.2.2).toNat, ⟨by simp, by simp, by simp [numsR], by simp⟩, ?_⟩
  rintro ⟨c, d, k⟩ ⟨k0, k1, e, e'⟩
  simp only at k0 k1 e e'
  subst e e'
  intro _
  refine ⟨fun hk => ?_, fun hk => ?_⟩
  · have hk : k < (l.length : Int) := hk
    refine ⟨by unfold I64; omega, room80 (by simp [numsR]; omega), ⟨k0, hk⟩, fun _ _ => ⟨room80 (by simp; omega), by unfold I64; omega, ⟨by show 0 ≤ k + 1; omega, by show k + 1 ≤ _; omega, ?_, ?_⟩, by show ((l.length : Int) - (k + 1)).toNat < ((l.length : Int) - k).toNat; omega⟩⟩
    · show numsR k.toNat ++ [numR (k + 1)] = numsR (k + 1).toNat
      rw [show (k + 1).toNat = k.toNat + 1 by omega, show numsR (k.toNat + 1) = numsR k.toNat ++ [numR ((k.toNat : Int) + 1)] by simp [numsR, List.range_succ], show ((k.toNat : Nat) : Int) = k by omega]
    · show l.take k.toNat ++ [ix l k] = l.take (k + 1).toNat
      rw [take_ix k0 hk]
  · have : k = l.length := by omega
    subst this
    simp only [Int.toNat_natCast, List.take_length]
    refine rLight_ok ?_ h
    simp only [wtR, numsR_wt]; omega
end Go.Vc
