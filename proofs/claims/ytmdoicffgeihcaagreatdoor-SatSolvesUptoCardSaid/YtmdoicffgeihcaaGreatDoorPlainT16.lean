/- The run, and Solve. No program in sight. -/
import Derived.Test.YtmdoicffgeihcaaGreatDoorPlainT15
set_option linter.unusedVariables false
namespace Go.Vc
section
variable {n : Int} {F : List (List Int)} {S : List Int} {T starts : List Int} {heat : List Unit} {proof : List (Bool × List Int)} {lines : List (List Int)}
variable {cs : List Raw} {watch : List (Int × Raw)} {value level reason : List Int} {head : Int} {dead : Bool} {A : Arena} {own : Own}
theorem loop_of {σ : Type} {s0 : σ} {body : σ → (σ → Prop) → Prop} (I : σ → Prop) (μ : σ → Nat) (h0 : I s0) (h : ∀ s, I s → ∀ next : σ → Prop, (∀ s', I s' → μ s' < μ s → next s') → body s next) : VLoop s0 body := ⟨I, μ, h0, fun s hs => h s hs _ fun s' h1 h2 => ⟨h1, h2⟩⟩
theorem run_ok (had : AD n F F cs watch value level reason T head dead A) (hn : 0 ≤ n ∧ n ≤ 24) (hcs : cs.length ≤ 33554432) (hFl : ∀ f ∈ F, litsOk n f = true) (hsl : litsOk n S = true) (hlen : S.length ≤ 1048576)
    {Q : Bool → List Bool → List Int → List (Bool × List Int) → Prop}
    (hu : ∀ (core : List Int) (lines : List (List Int)), core.Nodup → core.Sublist S → lines.length ≤ 16777217 → (∀ c ∈ lines, litsOk n c = true ∧ c.length ≤ 24) → (∀ (k : Nat) c, lines[k]? = some c → RUP n (F ++ core.map (fun y => [y]) ++ lines.take k) c) → [] ∈ lines → Q false [] core (lines.map fun c => (false, c)))
    (hs : ∀ m : List Bool, (m.length : Int) = n → modelsF m F = true → (∀ x ∈ S, makesLit m x = true) → Q true m [] []) :
    V_run n cs watch value level reason T [] head (List.replicate (n + 1).toNat ()) [] dead A S Q := by
  have fin : ∀ (core : List Int) (lines : List (List Int)), core.Nodup → core.Sublist S → lines.length ≤ 16777216 → (∀ c ∈ lines, litsOk n c = true ∧ c.length ≤ 24) → (∀ (k : Nat) c, lines[k]? = some c → RUP n (F ++ lines.take k) c) → RUP n ((F ++ lines) ++ core.map fun y => [y]) [] →
      Q false [] core ((lines.map fun c => (false, c)) ++ [(false, [])]) := fun core lines h1 h2 h3 h4 h5 h6 => by
    have e : (lines.map fun c => (false, c)) ++ [(false, ([] : List Int))] = (lines ++ [[]]).map fun c => (false, c) := by rw [List.map_append]; rfl
    rw [e]
    refine hu core (lines ++ [[]]) h1 h2 (by simp; omega) (fun c hc => ?_) (fun k c hk => ?_) (by simp)
    · rcases List.mem_append.1 hc with hc | hc
      · exact h4 c hc
      · rw [List.mem_singleton.1 hc]; exact ⟨rfl, by simp⟩
    · rcases Nat.lt_or_ge k lines.length with hlt | hge
      · rw [List.getElem?_append_left hlt] at hk
        rw [List.take_append_of_le_length (by omega)]
        refine (h5 k c hk).sup fun g hg => ?_
        rcases List.mem_append.1 hg with hg | hg
        · exact List.mem_append_left _ (List.mem_append_left _ hg)
        · exact List.mem_append_right _ hg
      · have hlt := (List.getElem?_eq_some_iff.1 hk).1
        rw [List.length_append, List.length_singleton] at hlt
        have e : k = lines.length := by omega
        subst e
        simp at hk; subst hk
        rw [List.take_append_of_le_length (Nat.le_refl _), List.take_length]
        refine h6.sup fun g hg => ?_
        rcases List.mem_append.1 hg with hg | hg
        · rcases List.mem_append.1 hg with hg | hg
          · exact List.mem_append_left _ (List.mem_append_left _ hg)
          · exact List.mem_append_right _ hg
        · exact List.mem_append_left _ (List.mem_append_right _ hg)
  rcases had with ⟨rfl, hR⟩ | ⟨rfl, own, hS0, hhd, hQ0, hRI, hCV⟩
  · refine ⟨_, fun s h => h, fun s => s.2.2.2.2.2.2.2.2.2.1 = [], fun _ => 0, rfl, ?_⟩
    rintro ⟨cs1, wa, va, le, re, T1, st, hd, he, pr, A1⟩ hpr
    dsimp only at hpr ⊢
    subst hpr
    refine ⟨fun e => by simp at e, fun _ => ⟨by unfold Room maxLen; simp, ?_⟩⟩
    exact fin [] [] List.nodup_nil (List.nil_sublist _) (by simp) (fun c hc => by cases hc) (fun k c hk => by simp at hk) (by simpa using hR)
  have hroom : ∀ {Cl : List (List Int)} {T st : List Int} {he : List Unit} {pr : List (Bool × List Int)} {lines : List (List Int)}, RB n F S Cl T st he pr lines → (T.length : Int) ≤ n → lines.length ≤ 16777216 ∧ ∀ x : Bool × List Int, Room (pr.length + [x].length) 32 := fun {Cl T st he pr lines} hB hT => by
    have h1 := bw_top (starts := st) hn hT
    have h2 := hB.cn
    have h3 : _ ≤ 16777216 := Nat.le_trans h2 (Nat.le_trans (Nat.le_of_lt h1.1) h1.2)
    refine ⟨h3, fun x => ?_⟩
    rw [hB.pr, List.length_map, List.length_singleton]
    exact ⟨by omega, by unfold maxLen; omega⟩
  refine ⟨_, fun s h => h, loop_of (fun s => RS n F S s.1 s.2.1 s.2.2.1 s.2.2.2.1 s.2.2.2.2.1 s.2.2.2.2.2.1 s.2.2.2.2.2.2.1 s.2.2.2.2.2.2.2.1 s.2.2.2.2.2.2.2.2.1 s.2.2.2.2.2.2.2.2.2.1 s.2.2.2.2.2.2.2.2.2.2)
    (fun s => (2 ^ n.toNat - bw n.toNat s.2.2.2.2.2.2.1 s.2.2.2.2.2.1.length) * (n.toNat + 2) + (n.toNat + 1 - s.2.2.2.2.2.1.length)) ⟨own, [], hS0, by rw [hhd, Int.toNat_natCast]; exact hQ0, ⟨by simp; omega, rfl, by simpa using hRI, hCV, fun c hc => (by cases hc), fun k c hk => (by simp at hk), fun p t _ hp => (by cases hp), by simp, by rw [clsOf_length]; simp; omega⟩⟩ ?_⟩
  rintro ⟨cs1, wa, va, le, re, T1, st, hd, he, pr, A1⟩ ⟨o1, lines, s1, q1, b1⟩ next hnext
  dsimp only at s1 q1 b1 hnext ⊢
  have hT1n := s1.ti.len
  refine ⟨fun _ => sfollow_ok s1 q1 ?_ ?_, fun e => by simp at e⟩
  rotate_left
  · rintro o2 i w2 v2 l2 r2 T2 h2 A2 C s2 ql c2 ⟨ext, hT⟩ hi hf hcur
    have b2 := b1.follow c2 hT fun s hs => (s1.ti.sb s hs).2
    have hT2n := s2.ti.len
    obtain ⟨hl2, hrm⟩ := hroom b2 hT2n
    refine ⟨fun _ _ => ⟨fun h0 => ?_, fun h0 => ?_⟩, fun h => absurd (Int.natCast_nonneg i) h⟩
    · have e : st = [] := List.length_eq_zero_iff.1 (by omega)
      subst e
      refine ⟨hrm _, ?_⟩
      obtain ⟨g, hg, hgx⟩ := b2.ri C (List.mem_of_getElem? hi)
      have hR := dead_all s2.ti s2.cw b2.ri hg hgx (s2.cw C (List.mem_of_getElem? hi)).2.2.1 hf
      rw [b2.pr]
      exact fin [] lines List.nodup_nil (List.nil_sublist _) hl2 b2.gd b2.ru (by simpa using hR)
    · refine conflict_ok s2 ql b2 hi hf hcur (by rintro rfl; simp at h0) fun cs3 w3 v3 l3 r3 T3 st3 h3 he3 pr3 A3 hRS hT3n hbw => hnext _ hRS ?_
      have hm := bw_mono (N := n.toNat) (starts := st) (j := T1.length) (k := T2.length) (by rw [hT]; simp)
      have ht := bw_top (starts := st3) hn hT3n
      dsimp only
      exact mu_lt (by omega) (Nat.le_of_lt ht.1) (.inl (by omega)) (by omega) (by omega)
  rintro o2 w2 v2 l2 r2 T2 A2 s2 q2 c2 ⟨ext, hT⟩
  have b2 := b1.follow c2 hT fun s hs => (s1.ti.sb s hs).2
  have hT2n := s2.ti.len
  obtain ⟨hl2, hrm⟩ := hroom b2 hT2n
  have hsb2 := s2.ti.sb
  refine ⟨fun h => absurd h (by omega), fun _ => ?_⟩
  refine ⟨fun l => (isLit n l = true ∧ tv T2 l = 0 ∧ l ∈ S) ∨ (l = 0 ∧ ∀ x ∈ S, x ∈ T2), fun l hl => ?_, fun _ => ?_⟩
  · refine ⟨fun d => isLit n d = true ∧ tv T2 d = 0 ∧ (d ∈ S ∨ ∀ x ∈ S, x ∈ T2), ?_, fun h0 => ?_, fun h0 => ?_⟩
    · rintro d ⟨d1, d2, d3⟩ _
      have hsl2 := s2.ti.slen
      refine ⟨⟨by rw [List.length_singleton]; omega, by rw [List.length_singleton]; unfold maxLen; omega⟩, set_ok s2.ti d1 ?_⟩
      have s3 := s2.push d1 d2 (starts' := st ++ [(T2.length : Int)]) (r := -1) (.inr ⟨rfl, rfl⟩) fun s hs => by
        rcases List.mem_append.1 hs with hs | hs
        · have := hsb2 s hs; omega
        · rw [List.mem_singleton.1 hs]; exact Int.le_refl _
      obtain ⟨b3, hbw⟩ := b2.tried d3 fun s hs => (hsb2 s hs).2
      refine hnext _ ⟨o2, lines, s3, ?_, b3⟩ ?_
      · rw [Int.toNat_natCast]
        intro i C a q hC ha hq hlt
        rw [List.getElem?_append_left hlt] at hq
        rcases q2 i C a q hC ha hq hlt with h | ⟨b, hb, p, hp, hle⟩
        · exact .inl h
        · have hpl := (List.getElem?_eq_some_iff.1 hp).1
          exact .inr ⟨b, hb, p, by rw [List.getElem?_append_left hpl]; exact hp, by rw [lev_snoc_lt (by omega), lev_snoc_lt (by omega)]; exact hle⟩
      · have hm := bw_mono (N := n.toNat) (starts := st) (j := T1.length) (k := T2.length) (by rw [hT]; simp)
        have hT3n := s3.ti.len
        have ht := bw_top (starts := st ++ [(T2.length : Int)]) hn hT3n
        have hTl : T1.length ≤ T2.length := by rw [hT]; simp
        dsimp only
        rw [List.length_append, List.length_singleton] at hT3n hbw ht ⊢
        exact mu_lt (by omega) (Nat.le_of_lt ht.1) (.inr (by omega)) (by omega) (by omega)
    · have hall : ∀ x ∈ S, x ∈ T2 := by
        rcases hl with ⟨h1, _⟩ | ⟨_, h2⟩
        · rw [h0, isLit_iff] at h1; exact absurd rfl h1.1
        · exact h2
      refine pick_ok s2.ti b2.hh (fun v hv1 hv2 htv => ⟨fun h => absurd h (by omega), fun _ => ⟨by unfold I64; omega, ?_⟩⟩) fun hasg => ⟨fun _ => ?_, fun h => absurd rfl h⟩
      · obtain ⟨z1, z2⟩ := tv_zero.1 htv
        exact ⟨by rw [isLit_iff]; omega, tv_zero.2 ⟨z2, by rw [Int.neg_neg]; exact z1⟩, .inr hall⟩
      refine found_ok s2.ti fun m hm hmv => ?_
      have hmk : ∀ x, isLit n x = true → x ∈ T2 → makesLit m x = true := fun x hx hxT => by
        have hxa := lit_av s2.ti.okn hx
        rw [makes_lit s2.ti.okn hm hx, hmv _ hxa.1 hxa.2.1]
        rw [isLit_iff] at hx
        rcases (by omega : 0 < x ∨ x < 0) with h | h
        · have e : av x = x := by unfold av; omega
          rw [e]; simp [hxT, h]
        · have e : av x = -x := by unfold av; omega
          have h1 := s2.ti.cons hxT
          have h2 : ¬ 0 < x := by omega
          rw [e]; simp [h1, h2]
      have hor : ∀ x, isLit n x = true → x ∈ T2 ∨ -x ∈ T2 := fun x hx => by
        have hxa := lit_av s2.ti.okn hx
        have h1 := hasg _ hxa.1 hxa.2.1
        rcases tv_cases T2 (av x) with ⟨_, h⟩ | ⟨_, h, _⟩ | ⟨h, _⟩
        · rcases (by unfold av; omega : av x = x ∨ av x = -x) with e | e
          · rw [e] at h; exact .inl h
          · rw [e] at h; exact .inr h
        · rcases (by unfold av; omega : av x = x ∨ av x = -x) with e | e
          · rw [e] at h; exact .inr h
          · rw [e, Int.neg_neg] at h; exact .inl h
        · exact absurd h h1
      refine hs m hm (List.all_eq_true.2 fun f hf => List.any_eq_true.2 ?_) fun x hx => hmk x (mem_lits hsl hx) (hall x hx)
      rcases b2.cv f hf with ⟨x, hx, hnx⟩ | ⟨C, hC, hCf⟩
      · rcases hor x (mem_lits (hFl f hf) hx) with h | h
        · exact ⟨x, hx, hmk x (mem_lits (hFl f hf) hx) h⟩
        · exact ⟨-x, hnx, hmk _ (mem_lits (hFl f hf) hnx) h⟩
      · obtain ⟨c1, c2', c3, c4⟩ := s2.cw C hC
        have : ∃ x ∈ C, x ∈ T2 := by
          cases C with
          | nil => exact absurd rfl c1
          | cons a D =>
            rcases hor a (mem_lits c3 (by simp)) with h | h
            · exact ⟨a, by simp, h⟩
            · obtain ⟨i, hi⟩ := List.getElem?_of_mem hC
              obtain ⟨q, hq⟩ := List.getElem?_of_mem h
              have hql := (List.getElem?_eq_some_iff.1 hq).1
              rcases q2 i _ a q hi (by simp) hq hql with h | ⟨b, hb, p, hp, _⟩
              · exact h.elim
              · exact ⟨b, List.mem_of_mem_take hb, List.mem_of_getElem? hp⟩
        obtain ⟨x, hx, hxT⟩ := this
        exact ⟨x, hCf x hx, hmk x (mem_lits c3 hx) hxT⟩
    · rcases hl with ⟨h1, h2, h3⟩ | ⟨h1, _⟩
      · exact ⟨h1, h2, .inl h3⟩
      · exact absurd h1 h0
  · refine ⟨fun x => 0 ≤ x ∧ x ≤ S.length ∧ ∀ y ∈ S.take x.toNat, y ∈ T2, fun x => ((S.length : Int) - x).toNat, ⟨by omega, by omega, fun y hy => by simp at hy⟩, ?_⟩
    rintro x ⟨x0, x1, hx⟩
    refine ⟨fun hlt => ⟨⟨x0, hlt⟩, fun _ => ?_⟩, fun hge => .inr ⟨rfl, fun y hy => hx y (by rw [List.take_of_length_le (by omega)]; exact hy)⟩⟩
    have hmem := ix_mem x0 hlt
    have hxl := mem_lits hsl hmem
    refine of_ok s2.ti hxl ⟨fun hneg => ⟨hrm _, ?_⟩, fun hneg => of_ok s2.ti hxl ⟨fun h0 => .inl ⟨hxl, h0, hmem⟩, fun h0 => ⟨by unfold I64; omega, ⟨by omega, by omega, fun y hy => ?_⟩, by dsimp only; omega⟩⟩⟩
    · have hnT := tv_lt hneg
      rw [b2.pr]
      refine core_ok s2 b2.ri hsl hlen (fun p t hp hps => ?_) hmem hnT fun core hc1 hc2 hc3 => fin core lines hc1 hc2 hl2 b2.gd b2.ru hc3
      rcases b2.dc p t hp hps with h | h
      · exact h
      · exact absurd hnT (s2.ti.cons (List.mem_of_mem_take (h _ hmem)))
    · rw [take_ix x0 hlt] at hy
      rcases List.mem_append.1 hy with hy | hy
      · exact hx y hy
      · rw [List.mem_singleton.1 hy]
        rcases tv_cases T2 (ix S x) with ⟨_, h⟩ | ⟨h, _⟩ | ⟨h, _⟩
        · exact h
        · omega
        · omega
end
end Go.Vc
