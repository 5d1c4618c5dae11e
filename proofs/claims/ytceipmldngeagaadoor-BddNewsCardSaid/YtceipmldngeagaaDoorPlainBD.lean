/- The plain part of BddNews: tables of variables, and what comes of two of them. No program in sight. -/
import Derived.Test.YtceipmldngeagaaDoorConds
set_option linter.unusedVariables false
set_option linter.unusedSimpArgs false
namespace Go.Vc
theorem Told_ok {e : Option Int} {Q : Int → Prop} (hi : ∀ n, e = some n → I64 n) (h : Q (e.getD 0)) : V_Told e Q := by
  refine ⟨fun h0 => by rw [h0] at h; exact h, fun h0 => ⟨fun h1 => absurd h1 h0, fun n hn => ⟨hi n hn, fun _ => by rw [hn] at h; exact h, fun h => by cases h⟩⟩⟩
theorem Error_ok {e : Option Int} {f : Int} {Q : Bool → Prop} (hi : ∀ n, e = some n → I64 n) (h : Q (decide (e.getD 0 = f))) : V_Error e f Q := Told_ok hi h
/-- 0, 1, .. -/
def rng (n : Int) : List Int := (List.range n.toNat).map fun i : Nat => (i : Int)
theorem rng_length {n : Int} (h : 0 ≤ n) : ((rng n).length : Int) = n := by simp [rng]; omega
theorem rng_ix {n i : Int} (h0 : 0 ≤ i) (h1 : i < n) : ix (rng n) i = i := by
  have : i.toNat < n.toNat := by omega
  simp [ix, rng, this]; omega
theorem rng_in {n i : Int} (h0 : 0 ≤ i) (h1 : i < n) : In i (rng n) := ⟨h0, by rw [rng_length (by omega)]; exact h1⟩
theorem rng_succ {n : Int} (h : 0 ≤ n) : rng (n + 1) = rng n ++ [n] := by
  have : (n + 1).toNat = n.toNat + 1 := by omega
  rw [rng, this, List.range_succ, List.map_append]; simp [rng]; omega
abbrev Nds := List (Int × Int × Int)
abbrev Mp := List ((Int × Int × Int) × Int)
def ends (n : Int) : Nds := [(n, 0, 0), (n, 0, 0)]
theorem New_ok {n : Int} {Q : Option (Nds × List Int × Mp × List Int × List Int × Mp) → Option Int → Prop} (h1 : n < 0 ∨ 24 < n → Q none (some 5))
    (h2 : 0 ≤ n → n ≤ 24 → Q (some (ends n, [], [], rng n, rng n, [])) none) : V_New n Q := by
  refine ⟨h1, fun hn => ⟨⟨by omega, by omega, by omega⟩, fun s => 0 ≤ s.2.2 ∧ s.2.2 ≤ n ∧ s.1 = rng s.2.2 ∧ s.2.1 = rng s.2.2, fun s => (n - s.2.2).toNat, ⟨Int.le_refl 0, (by omega : (0 : Int) ≤ n), rfl, rfl⟩, ?_⟩⟩
  rintro ⟨c, d, x⟩ ⟨g1, g2, g3, g4⟩
  dsimp only at g1 g2 g3 g4
  subst g3 g4
  refine ⟨fun hlt => ?_, fun hge => ?_⟩
  · have hr : Room ((rng x).length + [x].length) 8 := by
      have := rng_length g1
      constructor
      · simp; omega
      · simp; unfold maxLen; omega
    have hx : (rng x ++ [x], rng x ++ [x]) = (rng (x + 1), rng (x + 1)) := by rw [rng_succ g1]
    refine ⟨fun s => s = (rng (x + 1), rng (x + 1)), ?_, ⟨hr, hr, hx⟩, ⟨hr, hr, hx⟩, hr, hr, hx⟩
    rintro _ rfl
    exact ⟨by unfold I64; omega, ⟨by dsimp only; omega, by dsimp only; omega, rfl, rfl⟩, by dsimp only; omega⟩
  · have hxn : x = n := by omega
    subst hxn
    exact ⟨⟨by decide, by decide⟩, ⟨by decide, by simp⟩, h2 (by omega) (by omega)⟩
section
variable {nodes : Nds} {free : List Int} {ms memo : Mp} {order level : List Int}
theorem Is_ok {i : Int} {Q : Bool → Prop} (h : Q (decide (0 ≤ i ∧ i < order.length))) : V_Is nodes free ms order level memo i Q := by
  refine ⟨fun b => b = decide (0 ≤ i ∧ i < order.length), fun b hb => by rw [hb]; exact h, fun h0 _ => by simp [h0], fun h0 => by simp [h0]⟩
theorem depth_end {f : Int} {Q : Int → Prop} (hf : f ≤ 1) (h : Q order.length) : V_depth nodes free ms order level memo f Q := ⟨fun _ _ => h, fun h => absurd hf h⟩
theorem depth_in {f : Int} {Q : Int → Prop} (hf : 1 < f) (h1 : In f nodes) (h2 : In (ix nodes f).1 level) (h : Q (ix level (ix nodes f).1)) : V_depth nodes free ms order level memo f Q :=
  ⟨fun h => by omega, fun _ => ⟨h1, fun _ => ⟨h2, fun _ => h⟩⟩⟩
theorem make_hit {a l u : Int} {Q : Int → Nds → List Int → Mp → Prop} (hne : l ≠ u) (hh : mhas ms (a, l, u) = true) (h : Q (mgetD ms (a, l, u) 0) nodes free ms) : V_make nodes free ms order level memo a l u Q :=
  ⟨fun e => absurd e hne, fun _ _ => ⟨fun _ => h, fun hf => by rw [hh] at hf; cases hf⟩⟩
theorem make_new {a l u : Int} {Q : Int → Nds → List Int → Mp → Prop} (hne : l ≠ u) (hh : mhas ms (a, l, u) = false) (hl : nodes.length ≤ 1000) (h : Q nodes.length (nodes ++ [(a, l, u)]) [] (mset ms (a, l, u) nodes.length)) : V_make nodes [] ms order level memo a l u Q := by
  refine ⟨fun e => absurd e hne, fun _ _ => ⟨fun hf => (by rw [hh] at hf; cases hf), fun _ => ⟨_, fun _ h => h, fun _ => ⟨by unfold I64; simp, fun h => (by simp at h), fun _ _ => ⟨⟨by simp; omega, by simp; unfold maxLen; omega⟩, h⟩⟩⟩⟩⟩
end
section
variable {n : Int} (h0 : 0 ≤ n)
/-- Tables that hold up to three nodes. -/
def N1 (n i : Int) : Nds := ends n ++ [(i, 0, 1)]
def N2 (n i k : Int) : Nds := N1 n i ++ [(k, 0, 1)]
def N3 (n i k : Int) (t : Int × Int × Int) : Nds := N2 n i k ++ [t]
def M1 (i : Int) : Mp := [((i, 0, 1), 2)]
def M2 (i k : Int) : Mp := [((i, 0, 1), 2), ((k, 0, 1), 3)]
def M3 (i k : Int) (t : Int × Int × Int) : Mp := [((i, 0, 1), 2), ((k, 0, 1), 3), (t, 4)]
include h0 in
theorem Var_none {i : Int} {nodes : Nds} {ms memo : Mp} {Q : Int → Nds → List Int → Mp → Prop} (hi : ¬ (0 ≤ i ∧ i < n)) (h : Q 0 nodes [] ms) : V_Var nodes [] ms (rng n) (rng n) memo i Q := by
  refine Is_ok ?_
  rw [rng_length h0, decide_eq_false hi]
  exact ⟨fun _ => h, fun h => by cases h⟩
include h0 in
theorem Var_new {i : Int} {nodes : Nds} {ms memo : Mp} {Q : Int → Nds → List Int → Mp → Prop} (hi : 0 ≤ i ∧ i < n) (hh : mhas ms (i, 0, 1) = false) (hl : nodes.length ≤ 1000) (h : Q nodes.length (nodes ++ [(i, 0, 1)]) [] (mset ms (i, 0, 1) nodes.length)) :
    V_Var nodes [] ms (rng n) (rng n) memo i Q := by
  refine Is_ok ?_
  rw [rng_length h0, decide_eq_true hi]
  exact ⟨fun h => (by cases h), fun _ => make_new (by omega) hh hl h⟩
include h0 in
theorem Var_hit {i : Int} {nodes : Nds} {ms memo : Mp} {Q : Int → Nds → List Int → Mp → Prop} (hi : 0 ≤ i ∧ i < n) (hh : mhas ms (i, 0, 1) = true) (h : Q (mgetD ms (i, 0, 1) 0) nodes [] ms) :
    V_Var nodes [] ms (rng n) (rng n) memo i Q := by
  refine Is_ok ?_
  rw [rng_length h0, decide_eq_true hi]
  exact ⟨fun h => (by cases h), fun _ => make_hit (by omega) hh h⟩
end
section
variable {nodes : Nds} {free : List Int} {ms memo : Mp} {order level : List Int}
theorem Ite_one {m : Nat} {f g h : Int} {Q : Int → Nds → List Int → Mp → Mp → Prop} (hf : f = 1 ∨ g = h) (hq : Q g nodes free ms memo) : V_Ite (m + 1) nodes free ms order level memo f g h Q := ⟨fun _ => hq, fun h => absurd hf h⟩
theorem Ite_zero {m : Nat} {g h : Int} {Q : Int → Nds → List Int → Mp → Mp → Prop} (hne : g ≠ h) (hq : Q h nodes free ms memo) : V_Ite (m + 1) nodes free ms order level memo 0 g h Q :=
  ⟨fun h => by omega, fun _ => ⟨fun _ => hq, fun h => absurd rfl h⟩⟩
theorem Ite_self {m : Nat} {f : Int} {Q : Int → Nds → List Int → Mp → Mp → Prop} (h0 : f ≠ 0) (h1 : f ≠ 1) (hq : Q f nodes free ms memo) : V_Ite (m + 1) nodes free ms order level memo f 1 0 Q :=
  ⟨fun h => by omega, fun _ => ⟨fun h => absurd h h0, fun _ => ⟨fun _ => hq, fun h => by omega⟩⟩⟩
theorem split_no {f l d : Int} {Q : Int → Int → Prop} (hd : ∀ R : Int → Prop, R d → V_depth nodes free ms order level memo f R) (hne : d ≠ l) (h : Q f f) : V_split nodes free ms order level memo f l Q := hd _ ⟨fun _ => h, fun h => absurd hne h⟩
theorem split_yes {f l : Int} {Q : Int → Int → Prop} (hd : ∀ R : Int → Prop, R l → V_depth nodes free ms order level memo f R) (hi : In f nodes) (h : Q (ix nodes f).2.1 (ix nodes f).2.2) : V_split nodes free ms order level memo f l Q :=
  hd _ ⟨fun h => absurd rfl h, fun _ => ⟨hi, fun _ => ⟨hi, fun _ => h⟩⟩⟩
/-- And of two inner nodes, one step. -/
theorem And_step {m : Nat} {f g df dg l f0 f1 g0 g1 a : Int} {Q : Int → Nds → List Int → Mp → Mp → Prop} (hf0 : f ≠ 0) (hf1 : f ≠ 1) (hg0 : g ≠ 0) (hg1 : g ≠ 1) (hmemo : memo = [])
    (hdf : ∀ R : Int → Prop, R df → V_depth nodes free ms order level memo f R) (hdg : ∀ R : Int → Prop, R dg → V_depth nodes free ms order level memo g R) (hl : min (min df dg) (order.length : Int) = l) (hlo : l < order.length)
    (hsf : ∀ R : Int → Int → Prop, R f0 f1 → V_split nodes free ms order level memo f l R) (hsg : ∀ R : Int → Int → Prop, R g0 g1 → V_split nodes free ms order level memo g l R) (hin : In l order) (ha : ix order l = a)
    (h : V_Ite m nodes free ms order level memo f0 g0 0 fun r c1 c2 m1 m2 => V_Ite m c1 c2 m1 order level m2 f1 g1 0 fun r' d1 d2 n1 n2 => V_make d1 d2 n1 order level n2 a r r' fun x e1 e2 o1 => Q x e1 e2 o1 (mset n2 (f, g, 0) x)) :
    V_Ite (m + 1) nodes free ms order level memo f g 0 Q := by
  refine ⟨fun h => by omega, fun _ => ⟨fun h => absurd h hf0, fun _ => ⟨fun h => by omega, fun _ _ => ⟨fun hh => by subst hmemo; simp [mhas, mfind] at hh, fun _ => ?_⟩⟩⟩⟩
  refine hdf _ (hdg _ (depth_end (by omega) ?_))
  rw [hl]
  refine hsf _ (hsg _ (split_no (d := order.length) (fun R h => depth_end (by omega) h) (by omega) ⟨hin, fun _ => ?_⟩))
  rw [ha]
  exact h
theorem Eval_end {f : Int} {at_ : List Bool} {Q : Bool → Prop} (hf : f ≤ 1) (h : Q (decide (f = 1))) : V_Eval nodes free ms order level memo f at_ Q :=
  ⟨fun s => s = f, fun _ => 0, rfl, fun s hs => by subst hs; exact ⟨fun h => by omega, fun _ => h⟩⟩
/-- A node that asks one variable. -/
theorem Eval_var {f i : Int} {at_ : List Bool} {Q : Bool → Prop} (hf : 1 < f) (hi : In f nodes) (hn : ix nodes f = (i, 0, 1)) (hi0 : 0 ≤ i) (h : Q (decide (i < at_.length) && (ix at_ i))) : V_Eval nodes free ms order level memo f at_ Q := by
  generalize hb : (decide (i < (at_.length : Int)) && ix at_ i) = b0 at h
  have hμ : ∀ s : Int, s ≤ 1 → (if s = f then 1 else 0) < (if f = f then 1 else 0) := fun s hs => by rw [if_pos rfl, if_neg (by omega)]; omega
  refine ⟨fun s => s = f ∨ (s ≤ 1 ∧ Q (decide (s = 1))), fun s => if s = f then 1 else 0, .inl rfl, fun s hs => ⟨fun hlt => ?_, fun hge => ?_⟩⟩
  · rcases hs with rfl | hs
    · refine ⟨hi, fun _ _ _ => ⟨fun b => b = b0, fun b hbb => ?_, ?_⟩⟩
      · rw [hn]
        have hbb' : b = b0 := hbb
        subst hbb'
        refine ⟨fun hbt => ⟨.inr ⟨Int.le_refl 1, ?_⟩, hμ 1 (Int.le_refl 1)⟩, fun hbf => ⟨.inr ⟨(by omega : (0 : Int) ≤ 1), ?_⟩, hμ 0 (by omega)⟩⟩
        · rw [hbt] at h; exact h
        · rw [hbf] at h; exact h
      · intro _
        rw [hn]
        refine ⟨fun hlt => ⟨⟨hi0, hlt⟩, ?_⟩, fun hge => ?_⟩
        · show _ = b0
          rw [← hb]; simp [show i < (at_.length : Int) from hlt]
        · show false = b0
          rw [← hb]; simp [show ¬ i < (at_.length : Int) from hge]
    · omega
  · rcases hs with rfl | hs
    · omega
    · exact hs.2
end
end Go.Vc
