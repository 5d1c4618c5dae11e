/- The document's reader, part 2: lists, values, a whole text. No program in sight. -/
import Derived.Test.YtlhkfkecoekoeaaGreatDoorPlainR3
set_option linter.unusedVariables false
set_option linter.unusedSimpArgs false
namespace Go.Vc
section
variable {text r : Str} {a : Int}
def OutR (text : Str) (deep bad : Int) (Q : RV → Int → Int → Int → Int → Bool → Prop) : RO Val → Prop
  | .ok v r h => ∀ a, AtT text a r → Q (toR v) a deep 0 bad h
  | .err e r => e ≠ 0 → ∀ w a' s a h', wtR w ≤ 1024 → AtT text a' s → AtT text a r → Q w a' deep e a h'
def ReadsR (text : Str) (deep : Int) (one : Str → Bool → RO Val) (G : Str → Int → Int → Int → Int → Bool → (RV → Int → Int → Int → Int → Bool → Prop) → Prop) : Prop :=
  (∀ {r : Str} {a bad : Int} {heavy : Bool} {Q : RV → Int → Int → Int → Int → Bool → Prop}, AtT text a r → OutR text deep bad Q (one r heavy) → G text a deep 0 bad heavy Q) ∧
  (∀ {r : Str} {a e bad : Int} {heavy : Bool} {Q : RV → Int → Int → Int → Int → Bool → Prop}, e ≠ 0 → AtT text a r → (∀ a' s, AtT text a' s → Q nilR a' deep e bad heavy) → G text a deep e bad heavy Q)
def OutL (text : Str) (deep bad : Int) (Q : List RV → List RV → Int → Int → Int → Int → Bool → Prop) : RO (List Val) → Prop
  | .ok l r h => ∀ a, AtT text a r → l.length ≤ 4001 → Q (toRL l) [] a deep 0 bad h
  | .err e r => e ≠ 0 → ∀ w a' s a h', w.length ≤ 4001 → wtRL w ≤ 1024 * w.length → AtT text a' s → AtT text a r → Q w [] a' deep e a h'
def OutP (text : Str) (deep bad : Int) (Q : List RV → List RV → Int → Int → Int → Int → Bool → Prop) : RO (List VP) → Prop
  | .ok l r h => ∀ a, AtT text a r → l.length ≤ 4001 → Q (toRL (l.map (·.1))) (toRL (l.map (·.2))) a deep 0 bad h
  | .err e r => e ≠ 0 → ∀ ks vs a' s a h', AtT text a' s → AtT text a r → Q ks vs a' deep e a h'
abbrev LS := Int × Int × Int × Int × Bool × (List RV) × (List RV) × Bool
def V_tail (text : Str) (at_ deep e bad : Int) (heavy : Bool) (last : Str) (keys vals : List RV) (xend : Bool) (xnext : LS → Prop) : Prop :=
  V_rsign text at_ deep e bad heavy ([44] : Str) fun r_669 r_670 =>
    ((!r_669) = true →
      V_rwant text r_670 deep e bad heavy last fun r_673 r_675 r_677 =>
        xnext (r_673, deep, r_675, r_677, heavy, keys, vals, true)) ∧
    ((!r_669) = false →
      xnext (r_670, deep, e, bad, heavy, keys, vals, xend))
theorem tail_bad {at_ deep e bad : Int} {heavy : Bool} {last : Str} {keys vals : List RV} {xend : Bool} {xnext : LS → Prop} (ht : text.length ≤ 1000000) (he : e ≠ 0) {s : Str} (h : AtT text at_ s)
    (hN : ∀ a' s', AtT text a' s' → xnext (a', deep, e, bad, heavy, keys, vals, true)) : V_tail text at_ deep e bad heavy last keys vals xend xnext :=
  rsign_bad he ht h fun a' s h' => ⟨fun _ => rwant_bad he ht h' fun a2 s2 h2 => hN a2 s2 h2, fun hn => by simp at hn⟩
theorem tail_ok {at_ deep bad : Int} {heavy : Bool} {last : Str} {keys vals : List RV} {xend : Bool} {xnext : LS → Prop} (ht : text.length ≤ 1000000) (hg : last.length ≤ 1000) {s : Str} (h : AtT text at_ s)
    (hM : ∀ r' a', takeS [44] s = (true, r') → AtT text a' r' → xnext (a', deep, 0, bad, heavy, keys, vals, xend))
    (hL : ∀ r2 r' a', takeS [44] s = (false, r2) → takeS last r2 = (true, r') → AtT text a' r' → xnext (a', deep, 0, bad, heavy, keys, vals, true))
    (hE : ∀ r2 r' a', takeS [44] s = (false, r2) → takeS last r2 = (false, r') → AtT text a' r' → xnext (a', deep, 1, a', heavy, keys, vals, true)) : V_tail text at_ deep 0 bad heavy last keys vals xend xnext := by
  refine rsign_ok ht (by simp) h fun b r' a' e h' => ⟨fun hb => ?_, fun hb => ?_⟩
  · have : b = false := by simpa using hb
    subst this
    exact rwant_ok ht hg h' (fun r2 a2 e2 h2 => hL _ _ _ e e2 h2) (fun r2 a2 e2 h2 => hE _ _ _ e e2 h2)
  · have : b = true := by simpa using hb
    subst this; exact hM r' a' e h'
theorem AtT.back {s : Str} {a0 : Int} {p : Str} (h0 : AtT text a0 (p ++ s)) (h : AtT text a s) : a - (p.length : Int) = a0 := by
  have := h0.len; have := h.len; simp at *; omega
theorem takeS_cons {s r' : Str} {sign : Str} (h : takeS sign s = (true, r')) : r'.length + sign.length ≤ s.length := by
  obtain ⟨p, e, _⟩ := takeS_true h; rw [e]; simp; omega
section
variable {deep bad : Int} {heavy : Bool} {last sign : Str} {one : Str → Bool → RO Val} {G : Str → Int → Int → Int → Int → Bool → (RV → Int → Int → Int → Int → Bool → Prop) → Prop} {Q : List RV → List RV → Int → Int → Int → Int → Bool → Prop}
def V_step (G : Str → Int → Int → Int → Int → Bool → (RV → Int → Int → Int → Int → Bool → Prop) → Prop) (text : Str) (last : Str) (pairs : Bool) (c_365 c_367 c_369 c_371 : Int) (c_373 : Bool) (keys_375 vals_380 : List RV) (xend_384 : Bool) (xnext_534 : LS → Prop) : Prop :=
  G text c_365 c_367 c_369 c_371 c_373 fun r_542 r_549 r_551 r_553 r_555 r_557 =>
    Room (keys_375.length + ([r_542]).length) 80 ∧
    VMeet (σ := Int × Int × Int × Int × Bool × (List RV)) (fun (c_614, c_616, c_618, c_620, c_622, vals_624) =>
        V_tail text c_614 c_616 c_618 c_620 c_622 last (keys_375 ++ ([r_542])) vals_624 xend_384 xnext_534) fun J_628 =>
      (pairs = true →
        V_rwant text r_549 r_551 r_553 r_555 r_557 ([58] : Str) fun r_630 r_632 r_634 =>
          G text r_630 r_551 r_632 r_634 r_557 fun r_637 r_644 r_646 r_648 r_650 r_652 =>
            Room (vals_380.length + ([r_637]).length) 80 ∧
            J_628 (r_644, r_646, r_648, r_650, r_652, (vals_380 ++ ([r_637])))) ∧
      (pairs = false →
        J_628 (r_549, r_551, r_553, r_555, r_557, vals_380))
def V_loop (G : Str → Int → Int → Int → Int → Bool → (RV → Int → Int → Int → Int → Bool → Prop) → Prop) (text : Str) (last : Str) (pairs : Bool) (Q : List RV → List RV → Int → Int → Int → Int → Bool → Prop) (s0 : LS) : Prop :=
  VLoop (σ := LS) s0 fun (c_365, c_367, c_369, c_371, c_373, keys_375, vals_380, xend_384) xnext_534 =>
    VMeet (σ := Bool) (fun x_537 =>
        (x_537 = true → V_step G text last pairs c_365 c_367 c_369 c_371 c_373 keys_375 vals_380 xend_384 xnext_534) ∧
        (x_537 = false →
          I64 (c_367 - (1 : Int)) ∧
          Q keys_375 vals_380 c_365 (c_367 - (1 : Int)) c_369 c_371 c_373)) fun J_538 =>
      (c_369 = (0 : Int) →
        J_538 (!xend_384)) ∧
      (¬ (c_369 = (0 : Int)) →
        J_538 false)
def InvG (text : Str) (deep bad : Int) (Q : List RV → List RV → Int → Int → Int → Int → Bool → Prop) (A : List RV → List RV → Str → Bool → Prop) : LS → Prop := fun (at_, d, e, b, h, ks, vs, en) =>
  d = deep + 1 ∧ ((e = 0 ∧ en = false ∧ b = bad ∧ ∃ r, AtT text at_ r ∧ A ks vs r h) ∨ ((e ≠ 0 ∨ en = true) ∧ Q ks vs at_ deep e b h))
def muG (text : Str) : LS → Nat := fun (at_, d, e, b, h, ks, vs, en) => if e = 0 ∧ en = false then ((text.length : Int) - at_ + 1).toNat else 0
theorem muG_run {a d b : Int} {h : Bool} {ks vs : List RV} : muG text (a, d, 0, b, h, ks, vs, false) = ((text.length : Int) - a + 1).toNat := by simp [muG]
theorem muG_end {a d e b : Int} {h : Bool} {ks vs : List RV} : muG text (a, d, e, b, h, ks, vs, true) = 0 := by simp [muG]
theorem loop_ok (A : List RV → List RV → Str → Bool → Prop) {pairs : Bool} (hd0 : 0 ≤ deep) (hd : deep ≤ 24)
    (hS : ∀ {x r hv ks vs}, AtT text x r → A ks vs r hv → ∀ N : LS → Prop, (∀ a' r' h' ks' vs', AtT text a' r' → r'.length < r.length → A ks' vs' r' h' → N (a', deep + 1, 0, bad, h', ks', vs', false)) →
      (∀ a' e' b' h' ks' vs', Q ks' vs' a' deep e' b' h' → N (a', deep + 1, e', b', h', ks', vs', true)) → V_step G text last pairs x (deep + 1) 0 bad hv ks vs false N)
    {s0 : LS} (h0 : InvG text deep bad Q A s0) : V_loop G text last pairs Q s0 := by
  refine ⟨InvG text deep bad Q A, muG text, h0, ?_⟩
  rintro ⟨x, d, e, b, hv, ks, vs, en⟩ ⟨rfl, g⟩
  rcases g with ⟨rfl, rfl, rfl, r, g1, gA⟩ | ⟨hen, hq⟩
  · refine VMeet_go ⟨fun _ => ⟨fun _ => ?_, fun hn => by simp at hn⟩, fun hn => absurd rfl hn⟩
    have := g1.len; have := g1.pos
    refine hS g1 gA _ (fun a' r' h' ks' vs' at' hlt hA => ⟨⟨rfl, Or.inl ⟨rfl, rfl, rfl, r', at', hA⟩⟩, ?_⟩) (fun a' e' b' h' ks' vs' hq => ⟨⟨rfl, Or.inr ⟨Or.inr rfl, hq⟩⟩, ?_⟩)
    · have := at'.len; have := at'.pos
      rw [muG_run, muG_run]; omega
    · rw [muG_end, muG_run]; omega
  · have out : I64 (deep + 1 - 1) ∧ Q ks vs x (deep + 1 - 1) e b hv := ⟨by unfold I64; omega, by rw [show deep + 1 - 1 = deep by omega]; exact hq⟩
    refine VMeet_go ⟨fun he => ⟨fun hn => ?_, fun _ => out⟩, fun he => ⟨fun hn => by simp at hn, fun _ => out⟩⟩
    rcases hen with hen | hen
    · exact absurd he hen
    · rw [hen] at hn; simp at hn
theorem hleT (ht : text.length ≤ 4000) {r : Str} {a : Int} (h : AtT text a r) : r.length ≤ 4000 := by have := h.len; have := h.pos; omega
def AL (text : Str) (deep bad : Int) (Q : List RV → List RV → Int → Int → Int → Int → Bool → Prop) (last : Str) (one : Str → Bool → RO Val) (ks vs : List RV) (r : Str) (h : Bool) : Prop :=
  vs = [] ∧ ∃ l : List Val, ks = toRL l ∧ wtRL (toRL l) ≤ 1024 * l.length ∧ l.length + r.length ≤ 4000 ∧
    ((∀ e r', one r h = .err e r' → OutL text deep bad Q (.err e r')) ∧ ∀ v r3 h3, one r h = .ok v r3 h3 → ∃ n, r3.length < n ∧ OutL text deep bad Q (rdMore one last n (l ++ [v]) r3 h3))
theorem stepL (ht : text.length ≤ 4000) (hg : last.length ≤ 1000) (hG : ReadsR text (deep + 1) one G)
    (h1 : ∀ r h v r' h', one r h = .ok v r' h' → wtR (toR v) ≤ 1024 ∧ ∃ p, r = p ++ r' ∧ 1 ≤ p.length) {x : Int} {r : Str} {hv : Bool} {ks vs : List RV} (g1 : AtT text x r) (gA : AL text deep bad Q last one ks vs r hv) (N : LS → Prop)
    (hM : ∀ a' r' h' ks' vs', AtT text a' r' → r'.length < r.length → AL text deep bad Q last one ks' vs' r' h' → N (a', deep + 1, 0, bad, h', ks', vs', false))
    (hF : ∀ a' e' b' h' ks' vs', Q ks' vs' a' deep e' b' h' → N (a', deep + 1, e', b', h', ks', vs', true)) : V_step G text last false x (deep + 1) 0 bad hv ks vs false N := by
  have ht6 : text.length ≤ 1000000 := by omega
  obtain ⟨rfl, l, rfl, gw, gl, gE, gO⟩ := gA
  have roomk : ∀ w : RV, Room ((toRL l).length + [w].length) 80 := fun w => room80 (by rw [toRL_len]; simp; omega)
  refine hG.1 g1 ?_
  have post := h1 r hv
  revert gE gO post
  cases one r hv with
  | err e' r' =>
    intro gE _ _ he w a' s a1 h' hw at' at1
    refine ⟨roomk w, VMeet_go ⟨fun hn => by simp at hn, fun _ => tail_bad ht6 he at' fun a2 s2 at2 => hF _ _ _ _ _ _ ?_⟩⟩
    exact gE _ _ rfl he (toRL l ++ [w]) a2 s2 a1 h' (by simp [toRL_len]; omega) (by rw [wtRL_app]; simp [wtRL, toRL_len]; omega) at2 at1
  | ok v r3 h3 =>
    intro _ gO post a3 at3
    obtain ⟨n, hn, gx⟩ := gO v r3 h3 rfl
    obtain ⟨pw, p, hp, hp2⟩ := post v r3 h3 rfl
    have ll : r.length = p.length + r3.length := by rw [hp]; simp
    obtain ⟨n, rfl⟩ : ∃ m, n = m + 1 := ⟨n - 1, by omega⟩
    unfold rdMore at gx
    have ka : toRL l ++ [toR v] = toRL (l ++ [v]) := by rw [toRL_app]; rfl
    have lw : wtRL (toRL (l ++ [v])) ≤ 1024 * (l ++ [v]).length := by rw [toRL_app, wtRL_app]; simp [toRL, wtRL]; omega
    refine ⟨roomk _, VMeet_go ⟨fun hn => by simp at hn, fun _ => tail_ok ht6 hg at3 (fun r4 a4 e4 at4 => ?_) (fun r4 r5 a5 e4 e5 at5 => ?_) (fun r4 r5 a5 e4 e5 at5 => ?_)⟩⟩
    · rw [e4] at gx
      simp only at gx
      have h4 := takeS_cons e4
      simp at h4
      refine hM _ _ _ _ _ at4 (by omega) ⟨rfl, l ++ [v], ka, lw, by simp; omega, fun e r' ee => ?_, fun v5 r5 h5 ee => ⟨n, ?_, ?_⟩⟩
      · rw [ee] at gx; exact gx
      · obtain ⟨_, p5, hp5, hp6⟩ := h1 _ _ _ _ _ ee
        have : r4.length = p5.length + r5.length := by rw [hp5]; simp
        omega
      · rw [ee] at gx; exact gx
    · rw [e4] at gx
      simp only at gx
      rw [e5] at gx
      rw [ka]
      exact hF _ _ _ _ _ _ (gx a5 at5 (by simp; omega))
    · rw [e4] at gx
      simp only at gx
      rw [e5] at gx
      rw [ka]
      exact hF _ _ _ _ _ _ (gx (by decide) _ a5 r5 a5 h3 (by rw [toRL_len]; simp; omega) (by rw [toRL_len]; exact lw) at5 at5)
theorem rlist_ok (ht : text.length ≤ 4000) (hd0 : 0 ≤ deep) (hd : deep ≤ 24) (hg : last.length ≤ 1000) (hs : sign.length = last.length) (hG : deep + 1 ≤ 24 → ReadsR text (deep + 1) one G)
    (h1 : deep + 1 ≤ 24 → ∀ r h v r' h', one r h = .ok v r' h' → wtR (toR v) ≤ 1024 ∧ ∃ p, r = p ++ r' ∧ 1 ≤ p.length) {a0 : Int} (h0 : AtT text a0 (sign ++ r)) (h : AtT text a r)
    (hO : OutL text deep bad Q (rdList one last (sign ++ r) deep heavy)) : V_rvalues G text a deep 0 bad heavy last 0 false Q := by
  have ht6 : text.length ≤ 1000000 := by omega
  have hback := h0.back h
  refine ⟨by unfold I64; omega, VMeet_go ⟨fun hf => ?_, fun hf => ?_⟩⟩
  · unfold rdList at hO; rw [if_pos hf] at hO
    refine ⟨by unfold Len; omega, by have := h.pos; have := h.le; unfold I64; omega, fun _ => VMeet_go ⟨fun _ => rsign_bad (by decide) ht6 h fun a' s h' => ?_, fun hn => absurd rfl hn⟩, fun hn => absurd rfl hn⟩
    show V_loop G text last false Q (a', deep + 1, 6, a - (last.length : Int), heavy, [], [], false)
    refine loop_ok (bad := bad) (fun _ _ _ _ => False) hd0 hd (fun _ hf => hf.elim) ⟨rfl, Or.inr ⟨Or.inl (by decide), ?_⟩⟩
    rw [← hs, hback]
    exact hO (by decide) [] a' _ a0 heavy (by simp) (by simp [wtRL]) h' h0
  unfold rdList at hO; rw [if_neg hf] at hO
  rw [show (sign ++ r).drop last.length = r by rw [← hs]; simp] at hO
  have hG := hG (by omega)
  have h1 := h1 (by omega)
  refine VMeet_go ⟨fun _ => rsign_ok ht6 hg h fun b r2 a2 e2 at2 => ?_, fun hn => absurd rfl hn⟩
  rw [e2] at hO
  show V_loop G text last false Q (a2, deep + 1, 0, bad, heavy, [], [], b)
  refine loop_ok (bad := bad) (AL text deep bad Q last one) hd0 hd (fun g1 gA N hM hF => stepL ht hg hG h1 g1 gA N hM hF) ?_
  cases b with
  | true => exact ⟨rfl, Or.inr ⟨Or.inr rfl, hO a2 at2 (by simp)⟩⟩
  | false =>
    simp only at hO
    unfold rdFirst at hO
    refine ⟨rfl, Or.inl ⟨rfl, rfl, rfl, r2, at2, rfl, [], rfl, by simp [toRL, wtRL], by have := hleT ht at2; simp; omega, fun e r' ee => ?_, fun v r3 h3 ee => ⟨r3.length + 1, Nat.lt_succ_self _, ?_⟩⟩⟩
    · rw [ee] at hO; exact hO
    · rw [ee] at hO; exact hO
def APR (text : Str) (deep bad : Int) (Q : List RV → List RV → Int → Int → Int → Int → Bool → Prop) (one : Str → Bool → RO Val) (ks vs : List RV) (r : Str) (h : Bool) : Prop :=
  ∃ l : List VP, ks = toRL (l.map (·.1)) ∧ vs = toRL (l.map (·.2)) ∧ l.length + r.length ≤ 4000 ∧
    ((∀ e r', rdPair one r h = .err e r' → OutP text deep bad Q (.err e r')) ∧ ∀ v r3 h3, rdPair one r h = .ok v r3 h3 → ∃ n, r3.length < n ∧ OutP text deep bad Q (rdMore (rdPair one) [93] n (l ++ [v]) r3 h3))
theorem rdPair_short (h1 : ∀ r h v r' h', one r h = .ok v r' h' → wtR (toR v) ≤ 1024 ∧ ∃ p, r = p ++ r' ∧ 1 ≤ p.length) {r h v r' h'} (e : rdPair one r h = .ok v r' h') : r'.length < r.length := by
  unfold rdPair at e
  split at e
  · cases e
  · rename_i k r1 h1' e1
    split at e
    · cases e
    · rename_i r2 e2
      split at e
      · cases e
      · rename_i w r3 h3 e3
        injection e with e4 e5 e6; subst e4 e5
        obtain ⟨_, p1, rfl, b1⟩ := h1 _ _ _ _ _ e1
        have := takeS_cons e2
        obtain ⟨_, p3, rfl, b3⟩ := h1 _ _ _ _ _ e3
        simp at *; omega
theorem stepP (ht : text.length ≤ 4000) (hG : ReadsR text (deep + 1) one G)
    (h1 : ∀ r h v r' h', one r h = .ok v r' h' → wtR (toR v) ≤ 1024 ∧ ∃ p, r = p ++ r' ∧ 1 ≤ p.length) {x : Int} {r : Str} {hv : Bool} {ks vs : List RV} (g1 : AtT text x r) (gA : APR text deep bad Q one ks vs r hv) (N : LS → Prop)
    (hM : ∀ a' r' h' ks' vs', AtT text a' r' → r'.length < r.length → APR text deep bad Q one ks' vs' r' h' → N (a', deep + 1, 0, bad, h', ks', vs', false))
    (hF : ∀ a' e' b' h' ks' vs', Q ks' vs' a' deep e' b' h' → N (a', deep + 1, e', b', h', ks', vs', true)) : V_step G text [93] true x (deep + 1) 0 bad hv ks vs false N := by
  have ht6 : text.length ≤ 1000000 := by omega
  obtain ⟨l, rfl, rfl, gl, gE, gO⟩ := gA
  have roomk : ∀ w : RV, Room ((toRL (l.map (·.1))).length + [w].length) 80 := fun w => room80 (by rw [toRL_len]; simp; omega)
  have roomv : ∀ w : RV, Room ((toRL (l.map (·.2))).length + [w].length) 80 := fun w => room80 (by rw [toRL_len]; simp; omega)
  refine hG.1 g1 ?_
  rcases e1 : one r hv with ⟨k, r1, h1'⟩ | ⟨e', r'⟩
  · intro a1 at1
    obtain ⟨_, p1, hp1, hp1l⟩ := h1 _ _ _ _ _ e1
    have l1 : r.length = p1.length + r1.length := by rw [hp1]; simp
    refine ⟨roomk _, VMeet_go ⟨fun _ => rwant_ok ht6 (by simp) at1 (fun r2 a2 e2 at2 => ?_) (fun r2 a2 e2 at2 => ?_), fun hn => by simp at hn⟩⟩
    · have l2 := takeS_cons e2
      simp at l2
      refine hG.1 at2 ?_
      rcases e3 : one r2 h1' with ⟨w, r3, h3⟩ | ⟨e', r'⟩
      · intro a3 at3
        have eP : rdPair one r hv = .ok (k, w) r3 h3 := by unfold rdPair; rw [e1]; simp only; rw [e2]; simp only; rw [e3]
        obtain ⟨n, hn, gx⟩ := gO (k, w) r3 h3 eP
        have sh := rdPair_short h1 eP
        obtain ⟨n, rfl⟩ : ∃ m, n = m + 1 := ⟨n - 1, by omega⟩
        unfold rdMore at gx
        have ka : toRL (l.map (·.1)) ++ [toR k] = toRL ((l ++ [((k, w) : VP)]).map (·.1)) := by rw [List.map_append, toRL_app]; rfl
        have va : toRL (l.map (·.2)) ++ [toR w] = toRL ((l ++ [((k, w) : VP)]).map (·.2)) := by rw [List.map_append, toRL_app]; rfl
        refine ⟨roomv _, tail_ok ht6 (by simp) at3 (fun r4 a4 e4 at4 => ?_) (fun r4 r5 a5 e4 e5 at5 => ?_) (fun r4 r5 a5 e4 e5 at5 => ?_)⟩
        · rw [e4] at gx
          simp only at gx
          have h4 := takeS_cons e4
          simp at h4
          refine hM _ _ _ _ _ at4 (by omega) ⟨l ++ [(k, w)], ka, va, by simp; omega, fun e r' ee => ?_, fun v5 r5 h5 ee => ⟨n, ?_, ?_⟩⟩
          · rw [ee] at gx; exact gx
          · have := rdPair_short h1 ee; omega
          · rw [ee] at gx; exact gx
        · rw [e4] at gx
          simp only at gx
          rw [e5] at gx
          rw [ka, va]
          exact hF _ _ _ _ _ _ (gx a5 at5 (by simp; omega))
        · rw [e4] at gx
          simp only at gx
          rw [e5] at gx
          rw [ka, va]
          exact hF _ _ _ _ _ _ (gx (by decide) _ _ a5 r5 a5 h3 at5 at5)
      · intro he w a' s a1 h' hw at' at1
        have eP : rdPair one r hv = .err e' r' := by unfold rdPair; rw [e1]; simp only; rw [e2]; simp only; rw [e3]
        refine ⟨roomv _, tail_bad ht6 he at' fun a4 s4 at4 => hF _ _ _ _ _ _ ?_⟩
        exact gE _ _ eP he _ _ a4 s4 a1 h' at4 at1
    · have eP : rdPair one r hv = .err 1 r2 := by unfold rdPair; rw [e1]; simp only; rw [e2]
      refine hG.2 (by decide) at2 fun a3 s3 at3 => ⟨roomv _, tail_bad ht6 (by decide) at3 fun a4 s4 at4 => hF _ _ _ _ _ _ ?_⟩
      exact gE _ _ eP (by decide) _ _ a4 s4 a2 h1' at4 at2
  · intro he w a' s a1 h' hw at' at1
    have eP : rdPair one r hv = .err e' r' := by unfold rdPair; rw [e1]
    refine ⟨roomk w, VMeet_go ⟨fun _ => rwant_bad he ht6 at' fun a2 s2 at2 => hG.2 he at2 fun a3 s3 at3 => ⟨roomv _, tail_bad ht6 he at3 fun a4 s4 at4 => hF _ _ _ _ _ _ ?_⟩, fun hn => by simp at hn⟩⟩
    exact gE _ _ eP he _ _ a4 s4 a1 h' at4 at1
theorem rpairs_ok (ht : text.length ≤ 4000) (hd0 : 0 ≤ deep) (hd : deep ≤ 24) (hs : sign.length = 1) (hG : deep + 1 ≤ 24 → ReadsR text (deep + 1) one G)
    (h1 : deep + 1 ≤ 24 → ∀ r h v r' h', one r h = .ok v r' h' → wtR (toR v) ≤ 1024 ∧ ∃ p, r = p ++ r' ∧ 1 ≤ p.length) {a0 : Int} (h0 : AtT text a0 (sign ++ r)) (h : AtT text a r)
    (hO : OutP text deep bad Q (rdPairs one (sign ++ r) deep heavy)) : V_rvalues G text a deep 0 bad heavy [93] 1 true Q := by
  have ht6 : text.length ≤ 1000000 := by omega
  have hback := h0.back h
  refine ⟨by unfold I64; omega, VMeet_go ⟨fun hf => ?_, fun hf => ?_⟩⟩
  · unfold rdPairs at hO; rw [if_pos hf] at hO
    refine ⟨by unfold Len; simp, by have := h.pos; have := h.le; unfold I64; simp; omega, fun _ => VMeet_go ⟨fun hn => absurd hn (by decide), fun _ => ?_⟩, fun hn => absurd rfl hn⟩
    show V_loop G text [93] true Q (a, deep + 1, 6, a - (([93] : Str).length : Int), heavy, [], [], false)
    refine loop_ok (bad := bad) (fun _ _ _ _ => False) hd0 hd (fun _ hf => hf.elim) ⟨rfl, Or.inr ⟨Or.inl (by decide), ?_⟩⟩
    have : a - (([93] : Str).length : Int) = a0 := by rw [← hback, hs]; rfl
    rw [this]
    exact hO (by decide) [] [] a _ a0 heavy h h0
  unfold rdPairs at hO; rw [if_neg hf] at hO
  rw [show (sign ++ r).drop 1 = r by rw [← hs]; simp] at hO
  have hG := hG (by omega)
  have h1 := h1 (by omega)
  refine VMeet_go ⟨fun hn => absurd hn (by decide), fun _ => ?_⟩
  show V_loop G text [93] true Q (a, deep + 1, 0, bad, heavy, [], [], false)
  refine loop_ok (bad := bad) (APR text deep bad Q one) hd0 hd (fun g1 gA N hM hF => stepP ht hG h1 g1 gA N hM hF) ?_
  unfold rdFirst at hO
  refine ⟨rfl, Or.inl ⟨rfl, rfl, rfl, r, h, [], rfl, rfl, by have := hleT ht h; simp; omega, fun e r' ee => ?_, fun v r3 h3 ee => ⟨r3.length + 1, Nat.lt_succ_self _, ?_⟩⟩⟩
  · rw [ee] at hO; exact hO
  · rw [ee] at hO; exact hO
end
end
end Go.Vc
