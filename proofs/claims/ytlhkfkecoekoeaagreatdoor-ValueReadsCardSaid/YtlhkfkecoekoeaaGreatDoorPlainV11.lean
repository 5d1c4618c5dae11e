/- The program's reader does what reading in plain words says, part 2. No program in sight. -/
import Derived.Test.YtlhkfkecoekoeaaGreatDoorPlainV10
set_option linter.unusedVariables false
set_option linter.unusedSimpArgs false
namespace Go.Vc
section
variable {text r : Str} {a : Int}
theorem wordTail_ok {rest q w : Str} {deep : Int} {heavy minus : Bool} {E : Int → Int → Prop} {Q : Val → Int → Prop} (ht : text.length ≤ 1000000) (h : AtT text a r) (hr : r = q ++ (w ++ rest)) (hq : q.length = if minus then 1 else 0)
    (hO : Out text E (fun v a h => Q v a) (rdWord r w rest minus heavy)) :
    VMeet (σ := Bool) (fun x_282 =>
     (x_282 = true →
     V_number text a deep heavy w minus E fun r_289 r_292 =>
     Q r_289 r_292) ∧
     (x_282 = false →
     VMeet (σ := Unit) (fun _ =>
     (w = ([110, 105, 108] : Str) →
     Len w ∧
     I64 (a + (w.length : Int)) ∧
     Q Val.nil (a + (w.length : Int))) ∧
     (¬ (w = ([110, 105, 108] : Str)) →
     VMeet (σ := Bool) (fun x_341 =>
     (x_341 = true →
     Len w ∧
     I64 (a + (w.length : Int)) ∧
     V_Truth (decide (w = ([116, 114, 117, 101] : Str))) fun r_348 =>
     Q r_348 (a + (w.length : Int))) ∧
     (x_341 = false →
     VMeet (σ := Unit) (fun _ =>
     Len w ∧
     I64 (a + (w.length : Int)) ∧
     V_Atom w fun r_395 =>
     Q r_395 (a + (w.length : Int))) fun J_372 =>
     V_Reserved w fun r_374 =>
     (r_374 = true →
     V_fail text a deep heavy (1 : Int) E (
     J_372 ())) ∧
     (r_374 = false →
     Len w ∧
     ((16 : Int) < (w.length : Int) →
     V_fail text a deep heavy (5 : Int) E (
     J_372 ())) ∧
     (¬ ((16 : Int) < (w.length : Int)) →
     J_372 ())))) fun J_342 =>
     (w = ([116, 114, 117, 101] : Str) →
     J_342 (decide (w = ([116, 114, 117, 101] : Str)))) ∧
     (¬ (w = ([116, 114, 117, 101] : Str)) →
     J_342 (decide (w = ([102, 97, 108, 115, 101] : Str)))))) fun J_318 =>
     VMeet (σ := Bool) (fun x_323 =>
     (x_323 = true →
     V_fail text a deep heavy (1 : Int) E (
     J_318 ())) ∧
     (x_323 = false →
     J_318 ())) fun J_324 =>
     (w = ([] : Str) →
     J_324 true) ∧
     (¬ (w = ([] : Str)) →
     (minus = true →
     J_324 true) ∧
     (minus = false →
     In (0 : Int) w ∧
     J_324 (decide ((byte w (0 : Int)) = (95 : Int))))))) fun J_283 =>
     (w ≠ ([] : Str) →
     In (0 : Int) w ∧
     ((48 : Int) ≤ (byte w (0 : Int)) →
     In (0 : Int) w ∧
     J_283 (decide ((byte w (0 : Int)) ≤ (57 : Int)))) ∧
     (¬ ((48 : Int) ≤ (byte w (0 : Int))) →
     J_283 false)) ∧
     (¬ (w ≠ ([] : Str)) →
     J_283 false) := by
  have h0 := h.pos
  cases w with
  | nil =>
    refine VMeet_go ⟨fun hn => absurd rfl hn, fun _ => ⟨fun hn => by simp at hn, fun _ => VMeet_go (VMeet_go ⟨fun _ => ⟨fun _ => hO a h, fun hn => by simp at hn⟩, fun hn => absurd rfl hn⟩)⟩⟩
  | cons c w =>
    have hp : AtT text (a + q.length + (c :: w).length) rest := by subst hr; exact h.app.app
    have h1 := hp.le
    have e0 : byte (c :: w) 0 = ((c.toNat : Nat) : Int) := by simp [byte, ix]
    have i0 : In (0 : Int) (c :: w) := ⟨by omega, by simp⟩
    have id := isDig_i c
    unfold rdWord at hO
    simp only at hO
    rw [e0]
    by_cases hd : isDig c = true
    · rw [if_pos hd] at hO
      have hd2 := id.1 hd
      exact VMeet_go ⟨fun _ => ⟨i0, fun _ => ⟨i0, fun _ => number_ok ht h hr hq hO, fun hn => by simp at hn; omega⟩, fun hn => absurd hd2.1 hn⟩, fun hn => by simp at hn⟩
    rw [if_neg hd] at hO
    refine VMeet_go ⟨fun _ => ⟨i0, fun h48 => ⟨i0, fun hn => absurd (id.2 ⟨h48, by simpa using hn⟩) hd, fun _ => ?_⟩, fun _ => ⟨fun hn => by simp at hn, fun _ => ?_⟩⟩, fun hn => by simp at hn⟩
    all_goals
      refine VMeet_go (VMeet_go ⟨fun hn => by simp at hn, fun _ => ?_⟩)
      have c95 : c = 95 ↔ ((c.toNat : Nat) : Int) = 95 := ⟨fun h => by rw [h]; rfl, fun h => UInt8.toNat_inj.1 (by show c.toNat = 95; omega)⟩
      refine ⟨fun hm => ⟨fun _ => ?_, fun hn => by simp at hn⟩, fun hm => ⟨i0, fun hn => ?_, fun hn => ?_⟩⟩
      · rw [if_pos (by simp [hm])] at hO; exact hO a h
      · have := c95.2 (by simpa using hn)
        rw [if_pos (by simp [this])] at hO; exact hO a h
      · have hc : ¬ c = 95 := fun h => by have := c95.1 h; simp at hn; omega
        rw [if_neg (by simp [hm, hc])] at hO
        rw [hq, if_neg (by simp [hm])] at hp
        have hp' : AtT text (a + ((c :: w).length : Int)) rest := by
          rw [show a + ((0 : Nat) : Int) + ((c :: w).length : Int) = a + ((c :: w).length : Int) by omega] at hp; exact hp
        have hle := hp'.le
        have L1 : Len (c :: w) := by unfold Len; omega
        have L2 : I64 (a + ((c :: w).length : Int)) := by unfold I64; omega
        refine ⟨fun e => ⟨L1, L2, ?_⟩, fun e => VMeet_go ⟨fun e2 => ⟨fun _ => ⟨L1, L2, ?_⟩, fun hn => absurd (decide_eq_true e2) (by rw [hn]; simp)⟩, fun e2 => ⟨fun e3 => ⟨L1, L2, ?_⟩, fun e3 => VMeet_go (Reserved_ok ⟨fun hw => ?_, fun hw => ⟨L1, fun hl => ?_, fun hl => ⟨L1, L2, ?_⟩⟩⟩)⟩⟩⟩
        · rw [if_pos e] at hO; exact hO _ hp'
        · rw [if_neg e, if_pos e2] at hO
          show Q (.truth _) _
          rw [decide_eq_true e2]; exact hO _ hp'
        · have e3 : c :: w = [102, 97, 108, 115, 101] := of_decide_eq_true e3
          rw [if_neg e, if_neg e2, if_pos e3] at hO
          show Q (.truth _) _
          rw [decide_eq_false e2]; exact hO _ hp'
        · have e3 : ¬ c :: w = [102, 97, 108, 115, 101] := of_decide_eq_false e3
          rw [if_neg e, if_neg e2, if_neg e3, if_pos (by simpa using hw)] at hO; exact hO a h
        · have e3 : ¬ c :: w = [102, 97, 108, 115, 101] := of_decide_eq_false e3
          rw [if_neg e, if_neg e2, if_neg e3, if_neg (by simpa using hw), if_pos (by omega)] at hO; exact hO a h
        · have e3 : ¬ c :: w = [102, 97, 108, 115, 101] := of_decide_eq_false e3
          rw [if_neg e, if_neg e2, if_neg e3, if_neg (by simpa using hw), if_neg (by omega)] at hO; exact hO _ hp'
theorem single_ok {deep : Int} {heavy : Bool} {E : Int → Int → Prop} {Q : Val → Int → Prop} (ht : text.length ≤ 1000000) (h : AtT text a r) (hO : Out text E (fun v a h => Q v a) (rdSingle r heavy)) : V_single text a deep heavy E Q := by
  have h0 := h.pos; have h1 := h.le
  have hl : r.length ≤ 1000000 := by have := h.len; omega
  unfold V_single
  refine ⟨⟨h0, h1⟩, VMeet_go ?_⟩
  rw [h.drop]
  refine hasPre_ok hl (by simp) ⟨fun hq => ?_, fun hq => ?_⟩
  · have hq : r.take 1 = [34] := by simpa using hq
    unfold rdSingle at hO
    rw [if_pos hq] at hO
    obtain ⟨t, rfl⟩ : ∃ t, r = 34 :: t := ⟨r.drop 1, by conv => lhs; rw [← List.take_append_drop 1 r, hq]
                                                        rfl⟩
    simp only [List.drop_succ_cons, List.drop_zero] at hO
    obtain ⟨_, hlt, h2⟩ := h.cons
    refine ⟨by unfold I64; omega, ?_⟩
    refine ⟨fun k => ∃ s u, t = s ++ u ∧ k = a + 1 + s.length ∧ quoted t = (match quoted u with | some (x, y) => some (s ++ x, y) | none => none), fun k => (text.length - k).toNat, ⟨[], t, by simp, by simp, by cases quoted t <;> simp⟩, ?_⟩
    show ∀ c : Int, _ → _
    rintro k ⟨s, u, e1, e2, e3⟩
    have hu : AtT text k u := by rw [e2]; subst e1; exact h2.app
    have hk0 := hu.pos; have hk1 := hu.le
    have fail : quoted u = none → E 1 a := fun hn => by rw [e3, hn] at hO; exact hO a h
    refine VMeet_go ⟨by unfold Len; omega, fun hk => ?_, fun hk => ⟨fun hn => by simp at hn, fun _ => fail ?_⟩⟩
    · cases u with
      | nil => have := hu.len; simp at this; omega
      | cons x u =>
        obtain ⟨e5, e6, h3⟩ := hu.cons
        have eb : byte text k = ((x.toNat : Nat) : Int) := by unfold byte; rw [e5]
        have ik : In k text := ⟨hk0, hk⟩
        have tb : textB x = true ↔ (32 : Int) ≤ ((x.toNat : Nat) : Int) ∧ ((x.toNat : Nat) : Int) ≤ 126 ∧ ((x.toNat : Nat) : Int) ≠ 92 := by
          have e : x = 92 ↔ x.toNat = 92 := ⟨fun h => by rw [h]; rfl, fun h => UInt8.toNat_inj.1 h⟩
          simp only [textB, Bool.and_eq_true, decide_eq_true_eq, UInt8.le_iff_toNat_le, UInt8.toNat_ofNat, bne_iff_ne, ne_eq, e]
          omega
        have c34 : x = 34 ↔ ((x.toNat : Nat) : Int) = 34 := ⟨fun h => by rw [h]; rfl, fun h => UInt8.toNat_inj.1 (by show x.toNat = 34; omega)⟩
        have no : ¬ textB x = true → E 1 a := fun hn => fail (by simp [quoted, hn])
        rw [eb]
        refine ⟨ik, fun h32 => ⟨ik, fun h126 => ⟨ik, fun h92 => ⟨ik, fun h34 => ?_, fun h34 => ?_⟩, fun h92 => no fun hn => by have := tb.1 hn; simp at h92; omega⟩, fun h126 => ⟨fun hn => by simp at hn, fun _ => no fun hn => by have := tb.1 hn; omega⟩⟩, fun h32 => ⟨fun hn => by simp at hn, fun _ => no fun hn => by have := tb.1 hn; omega⟩⟩
        · have hx := c34.2 h34
          have ht2 := tb.2 ⟨h32, h126, by simpa using h92⟩
          have hqu : quoted t = some (s, u) := by rw [e3]; simp only [quoted]; rw [if_pos ht2, if_pos hx]; simp
          rw [hqu] at hO
          refine ⟨by unfold I64; omega, ⟨by omega, by omega, hk1⟩, by unfold I64; omega, ?_⟩
          show Q (.text _) _
          have hm : (text.take k.toNat).drop (a + 1).toNat = s := by rw [e2]; subst e1; exact h2.mid
          rw [hm]; exact hO _ h3
        · have hx : ¬ x = 34 := fun hn => h34 (c34.1 hn)
          have ht2 := tb.2 ⟨h32, h126, by simpa using h92⟩
          refine ⟨by unfold I64; omega, ⟨s ++ [x], u, by rw [e1]; simp, by simp; omega, ?_⟩, by show (_ : Int).toNat < (_ : Int).toNat; omega⟩
          rw [e3]; simp only [quoted]; rw [if_pos ht2, if_neg hx]
          cases quoted u <;> simp
    · cases u with
      | nil => rfl
      | cons x u => have := hu.cons; omega
  · have hq : ¬ r.take 1 = [34] := by simpa using hq
    unfold rdSingle at hO
    rw [if_neg hq] at hO
    refine hasPre_ok hl (by simp) (VMeet_go ⟨fun hm => ?_, fun hm => ?_⟩)
    · have hm' : r.take 1 = [45] := by simpa using hm
      rw [if_pos hm'] at hO
      obtain ⟨t, rfl⟩ : ∃ t, r = 45 :: t := ⟨r.drop 1, by conv => lhs; rw [← List.take_append_drop 1 r, hm']
                                                          rfl⟩
      simp only [List.drop_succ_cons, List.drop_zero] at hO
      obtain ⟨_, hlt, h2⟩ := h.cons
      refine ⟨by unfold I64; omega, word_ok ht h2 (VMeet_go ⟨fun _ => ⟨by unfold I64; omega, ?_⟩, fun hn => absurd (hm.symm.trans hn) (by simp)⟩)⟩
      rw [show a + 1 - 1 = a by omega, hm]
      exact wordTail_ok (q := [45]) ht h (by rw [List.takeWhile_append_dropWhile]; rfl) (by simp) hO
    · have hm' : ¬ r.take 1 = [45] := by simpa using hm
      rw [if_neg hm'] at hO
      refine word_ok ht h (VMeet_go ⟨fun hn => absurd (hm.symm.trans hn) (by simp), fun _ => ?_⟩)
      rw [hm]
      exact wordTail_ok (q := []) ht h (by rw [List.takeWhile_append_dropWhile, List.nil_append]) (by simp) hO
theorem weigh_ok {v : Val} {deep : Int} {heavy : Bool} {Q : Val → Bool → Prop} (h : Q v (heavy || v.isNil)) : V_weighed text a deep heavy v Q := by
  refine VMeet_go ⟨fun hh => ?_, fun hh => ?_⟩
  · simpa [hh] using h
  · simpa [hh] using h
def Reads1 (text : Str) (deep : Int) (one : Str → Bool → RO Val) (G : Str → Int → Int → Bool → (Int → Int → Prop) → (Val → Int → Int → Bool → Prop) → Prop) : Prop :=
  ∀ {r : Str} {a : Int} {heavy : Bool} {E : Int → Int → Prop} {Q : Val → Int → Int → Bool → Prop}, AtT text a r → Out text E (fun v a h => Q v a deep h) (one r heavy) → G text a deep heavy E Q
theorem list_ok {deep : Int} {heavy : Bool} {last : Str} {one : Str → Bool → RO Val} {G : Str → Int → Int → Bool → (Int → Int → Prop) → (Val → Int → Int → Bool → Prop) → Prop} {E : Int → Int → Prop} {Q : Int → Int → Bool → List Val → Prop}
    (ht : text.length ≤ 1000000) (hd0 : 0 ≤ deep) (hg : last.length ≤ 1000) (hG : deep + 1 ≤ 24 → Reads1 text (deep + 1) one G) (h1 : deep + 1 ≤ 24 → ∀ r h v r' h', one r h = .ok v r' h' → ∃ p, r = p ++ r' ∧ 1 ≤ p.length) (h : AtT text a r) (hr : last.length ≤ r.length) (hd : deep ≤ 24)
    (hO : Out text E (fun l a h => l.length ≤ 1000000 → Q a deep h l) (rdList one last r deep heavy)) : V_list G text a deep heavy last [] E Q := by
  have h0 := h.pos
  refine VMeet_go ⟨by unfold I64; omega, fun hf => ?_, fun hf => ?_⟩
  · unfold rdList at hO; rw [if_pos hf] at hO; exact hO a h
  unfold rdList at hO; rw [if_neg hf] at hO
  have er : r = r.take last.length ++ r.drop last.length := (List.take_append_drop ..).symm
  have el : (r.take last.length).length = last.length := by simp; omega
  have h2 : AtT text (a + (last.length : Int)) (r.drop last.length) := by
    have := h; rw [er] at this; have := this.app; rwa [el] at this
  have h2l := h2.le
  have hle : ∀ {r : Str} {a : Int}, AtT text a r → r.length ≤ 1000000 := fun h => by have := h.len; have := h.pos; omega
  refine ⟨by unfold Len; omega, by unfold I64; omega, VMeet_go (take_ok ht hg h2 fun b r2 a2 e2 h3 => ?_)⟩
  rw [e2] at hO
  refine ⟨fun hb => ?_, fun hb => ?_⟩
  · have : b = false := by simpa using hb
    subst this
    simp only at hO
    unfold rdFirst at hO
    refine hG (by omega) h3 ?_
    have post := h1 (by omega) r2 heavy
    revert hO post
    cases one r2 heavy with
    | err e r' => exact fun hO _ => hO
    | ok v r3 h3' =>
      intro hO post a3 at3
      refine ⟨room16 (by simp), ?_⟩
      simp only [List.nil_append]
      refine ⟨fun s => s.2.1 = deep + 1 ∧ ∃ n r, AtT text s.1 r ∧ r.length < n ∧ s.2.2.2.length + r.length ≤ 1000000 ∧ Out text E (fun l a h => l.length ≤ 1000000 → Q a deep h l) (rdMore one last n s.2.2.2 r s.2.2.1), fun s => (text.length - s.1).toNat, ⟨rfl, r3.length + 1, r3, at3, by omega, ?_, hO⟩, ?_⟩
      · obtain ⟨p, hp, hp2⟩ := post v r3 h3' rfl
        have := hle h3
        rw [hp] at this; simp at this ⊢; omega
      rintro ⟨x, d, hv, l⟩ ⟨g1, n, r, g2, g3, g4, g5⟩
      simp only at g1 g2 g3 g4 g5
      subst g1
      refine take_ok ht (by simp) g2 fun b r4 a4 e4 at4 => ?_
      obtain ⟨n, rfl⟩ : ∃ m, n = m + 1 := ⟨n - 1, by omega⟩
      unfold rdMore at g5
      rw [e4] at g5
      refine ⟨fun hb => ?_, fun hb => ?_⟩
      · subst hb
        simp only at g5
        have post := h1 (by omega) r4 hv
        obtain ⟨p4, hp4, _⟩ := takeS_true e4
        refine hG (by omega) at4 ?_
        revert g5 post
        cases one r4 hv with
        | err e r' => exact fun hO _ => hO
        | ok v r5 h5 =>
          intro g5 post a5 at5
          obtain ⟨p5, hp5, hp6⟩ := post v r5 h5 rfl
          have ll : r.length = p4.length + (1 + (p5.length + r5.length)) := by rw [hp4, hp5]; simp; omega
          have la := at5.len; have lb := g2.len; have lc := at5.le
          refine ⟨room16 (by simp; omega), ⟨rfl, n, r5, at5, by omega, by simp; omega, g5⟩, by show (_ : Int).toNat < (_ : Int).toNat; omega⟩
      · subst hb
        simp only at g5
        refine want_ok ht hg at4 (fun r' a' e5 at5 => ?_) (fun r' a' e5 at5 => ?_)
        · rw [e5] at g5
          refine ⟨by show I64 (deep + 1 - 1); unfold I64; omega, ?_⟩
          show Q a' (deep + 1 - 1) hv l
          rw [show deep + 1 - 1 = deep by omega]
          exact g5 a' at5 (by omega)
        · rw [e5] at g5; exact g5 a' at5
  · have : b = true := by simpa using hb
    subst this
    simp only at hO
    refine ⟨by unfold I64; omega, ?_⟩
    rw [show deep + 1 - 1 = deep by omega]
    exact hO a2 h3 (by simp)
theorem pair_ok {deep : Int} {heavy : Bool} {one : Str → Bool → RO Val} {G : Str → Int → Int → Bool → (Int → Int → Prop) → (Val → Int → Int → Bool → Prop) → Prop} {E : Int → Int → Prop} {Q : List Val → Int → Int → Bool → List Val → Prop} {k v : List Val}
    (ht : text.length ≤ 1000000) (hG : Reads1 text deep one G) (h : AtT text a r) (hk : k.length ≤ 1000000) (hv : v.length ≤ 1000000)
    (hO : Out text E (fun p a h => Q (k ++ [p.1]) a deep h (v ++ [p.2])) (rdPair one r heavy)) : V_value2 G k text a deep heavy v E Q := by
  refine hG h ?_
  unfold rdPair at hO
  revert hO
  cases one r heavy with
  | err e r' => exact fun hO => hO
  | ok x r1 h1 =>
    intro hO a1 at1
    simp only at hO
    refine ⟨room16 (by simp; omega), want_ok ht (by simp) at1 (fun r' a' e5 at5 => ?_) (fun r' a' e5 at5 => ?_)⟩
    · rw [e5] at hO
      simp only at hO
      refine hG at5 ?_
      revert hO
      cases one r' h1 with
      | err e r' => exact fun hO => hO
      | ok y r3 h3 =>
        intro hO a3 at3
        exact ⟨room16 (by simp; omega), hO a3 at3⟩
    · rw [e5] at hO; exact hO a' at5
theorem pairs_ok {deep : Int} {heavy : Bool} {one : Str → Bool → RO Val} {G : Str → Int → Int → Bool → (Int → Int → Prop) → (Val → Int → Int → Bool → Prop) → Prop} {E : Int → Int → Prop} {Q : Int → Int → Bool → List Val → List Val → Prop}
    (ht : text.length ≤ 1000000) (hd0 : 0 ≤ deep) (hG : deep + 1 ≤ 24 → Reads1 text (deep + 1) one G) (h1 : deep + 1 ≤ 24 → ∀ r h v r' h', one r h = .ok v r' h' → ∃ p, r = p ++ r' ∧ 1 ≤ p.length) (h : AtT text a r) (hr : 1 ≤ r.length) (hd : deep ≤ 24)
    (hO : Out text E (fun l a h => l.length ≤ 1000000 → Q a deep h (l.map (·.1)) (l.map (·.2))) (rdPairs one r deep heavy)) : V_pairs G text a deep heavy [] [] E Q := by
  have h0 := h.pos
  refine VMeet_go ⟨by unfold I64; omega, fun hf => ?_, fun hf => ?_⟩
  · unfold rdPairs at hO; rw [if_pos hf] at hO; exact hO a h
  unfold rdPairs at hO; rw [if_neg hf] at hO
  have h2 : AtT text (a + 1) (r.drop 1) := by
    cases r with
    | nil => simp at hr
    | cons c r => exact h.cons.2.2
  have h2l := h2.le
  have hle : ∀ {r : Str} {a : Int}, AtT text a r → r.length ≤ 1000000 := fun h => by have := h.len; have := h.pos; omega
  have hp : ∀ r h v r' h', rdPair one r h = .ok v r' h' → ∃ p, r = p ++ r' ∧ 1 ≤ p.length := fun r h v r' h' e => by
    unfold rdPair at e
    split at e
    · cases e
    · rename_i k r1 h1' e1
      split at e
      · cases e
      · rename_i r2 e2
        split at e
        · cases e
        · rename_i w r3 h3 e3
          injection e with e4 e5 e6; subst e4 e5
          obtain ⟨p1, rfl, b1⟩ := h1 (by omega) _ _ _ _ _ e1
          obtain ⟨p2, rfl, _⟩ := takeS_true e2
          obtain ⟨p3, rfl, b3⟩ := h1 (by omega) _ _ _ _ _ e3
          exact ⟨p1 ++ (p2 ++ ([58] ++ p3)), by simp, by simp; omega⟩
  refine ⟨by unfold I64; omega, pair_ok ht (hG (by omega)) h2 (by simp) (by simp) ?_⟩
  unfold rdFirst at hO
  have post := hp (r.drop 1) heavy
  revert hO post
  cases rdPair one (r.drop 1) heavy with
  | err e r' => exact fun hO _ => hO
  | ok v r3 h3' =>
    intro hO post a3 at3
    simp only [List.nil_append] at hO ⊢
    refine ⟨fun s => s.2.1 = deep + 1 ∧ ∃ n r l, AtT text s.1 r ∧ r.length < n ∧ s.2.2.2.2 = l.map (·.1) ∧ s.2.2.2.1 = l.map (·.2) ∧ l.length + r.length ≤ 1000000 ∧ Out text E (fun l a h => l.length ≤ 1000000 → Q a deep h (l.map (·.1)) (l.map (·.2))) (rdMore (rdPair one) [93] n l r s.2.2.1), fun s => (text.length - s.1).toNat, ⟨rfl, r3.length + 1, r3, [v], at3, by omega, rfl, rfl, ?_, hO⟩, ?_⟩
    · obtain ⟨p, hp, hp2⟩ := post v r3 h3' rfl
      have := hle h2
      rw [hp] at this; simp at this ⊢; omega
    rintro ⟨x, d, hv, vs, ks⟩ ⟨g1, n, r, l, g2, g3, gk, gv, g4, g5⟩
    simp only at g1 g2 g3 gk gv g4 g5
    subst g1 gk gv
    refine take_ok ht (by simp) g2 fun b r4 a4 e4 at4 => ?_
    obtain ⟨n, rfl⟩ : ∃ m, n = m + 1 := ⟨n - 1, by omega⟩
    unfold rdMore at g5
    rw [e4] at g5
    refine ⟨fun hb => ?_, fun hb => ?_⟩
    · subst hb
      simp only at g5
      have post := hp r4 hv
      obtain ⟨p4, hp4, _⟩ := takeS_true e4
      refine pair_ok ht (hG (by omega)) at4 (by simp; omega) (by simp; omega) ?_
      revert g5 post
      cases rdPair one r4 hv with
      | err e r' => exact fun hO _ => hO
      | ok v r5 h5 =>
        intro g5 post a5 at5
        obtain ⟨p5, hp5, hp6⟩ := post v r5 h5 rfl
        have ll : r.length = p4.length + (1 + (p5.length + r5.length)) := by rw [hp4, hp5]; simp; omega
        have la := at5.len; have lb := g2.len; have lc := at5.le
        refine ⟨⟨rfl, n, r5, l ++ [v], at5, by omega, by simp, by simp, by simp; omega, g5⟩, by show (_ : Int).toNat < (_ : Int).toNat; omega⟩
    · subst hb
      simp only at g5
      refine want_ok ht (by simp) at4 (fun r' a' e5 at5 => ?_) (fun r' a' e5 at5 => ?_)
      · rw [e5] at g5
        refine ⟨by show I64 (deep + 1 - 1); unfold I64; omega, ?_⟩
        show Q a' (deep + 1 - 1) hv (l.map (·.1)) (l.map (·.2))
        rw [show deep + 1 - 1 = deep by omega]
        exact g5 a' at5 (by omega)
      · rw [e5] at g5; exact g5 a' at5
theorem value_ok (ht : text.length ≤ 1000000) : ∀ (f : Nat) {deep : Int} {r : Str} {a : Int} {heavy : Bool} {E : Int → Int → Prop} {Q : Val → Int → Int → Bool → Prop}, 0 ≤ deep → deep ≤ 24 → 26 ≤ f + deep → AtT text a r → Out text E (fun v a h => Q v a deep h) (rdV f r deep heavy) → V_value f text a deep heavy E Q
  | 0, deep, r, a, heavy, E, Q, hd, hd2, hf, h, hO => absurd hf (by omega)
  | f + 1, deep, r0, a, heavy, E, Q, hd, hd2, hf, h, hO => by
    unfold V_value
    refine skip_ok ht h fun a' h' => ⟨⟨h'.pos, h'.le⟩, ?_⟩
    rw [h'.drop]
    unfold rdV at hO
    simp only at hO
    revert h' hO
    generalize skipS r0 = r
    intro h' hO
    have hl : r.length ≤ 1000000 := by have := h'.len; have := h'.pos; omega
    have hG : deep + 1 ≤ 24 → Reads1 text (deep + 1) (fun r h => rdV f r (deep + 1) h) (V_value f) := fun hd3 => fun hat hOut => value_ok ht f (by omega) hd3 (by omega) hat hOut
    have h1 : deep + 1 ≤ 24 → ∀ r h v r' h', rdV f r (deep + 1) h = .ok v r' h' → ∃ p, r = p ++ r' ∧ 1 ≤ p.length := fun hd3 r h v r' h' e => by
      obtain ⟨p, a, b, c⟩ := (rdV_post hd3 e).took; exact ⟨p, a, b⟩
    have fitL : ∀ {last : Str} {l : List Val} {r' : Str} {h'' : Bool}, 1 ≤ last.length → last.length ≤ r.length → rdList (fun r h => rdV f r (deep + 1) h) last r deep heavy = .ok l r' h'' → FitL l := fun {last l r' h''} hl1 hl2 e => by
      have hd3 : deep + 1 ≤ 24 := by unfold rdList at e; split at e <;> first | (cases e; done) | omega
      obtain ⟨_, p, _, hall, _⟩ := rdList_post (Pr := Fit) (W := shl) (fun r h v r' h' e => by
        have := rdV_post hd3 e; obtain ⟨p, a, b, c⟩ := this.took; exact ⟨this.fit, p, a, c⟩) hl1 e hl2
      exact FitL_iff.2 hall
    refine hasPre_ok hl (by simp) ⟨fun hp => ?_, fun hp => hasPre_ok hl (by simp) ⟨fun hp2 => ?_, fun hp2 => hasPre_ok hl (by simp) ⟨fun hp3 => ?_, fun hp3 => ?_⟩⟩⟩
    · have hp : r.take 1 = [123] := by simpa using hp
      rw [if_pos hp] at hO
      have hr := take_pos hp
      refine list_ok (one := fun r h => rdV f r (deep + 1) h) ht hd (by simp) hG h1 h' (by simpa using hr) hd2 ?_
      have fl := @fitL [125]
      revert hO fl
      cases rdList (fun r h => rdV f r (deep + 1) h) [125] r deep heavy with
      | err e r' => exact fun hO _ => hO
      | ok l r1 hh =>
        intro hO fl a1 at1 hlen
        exact SetOf_ok (fl (by simp) (by simpa using hr) rfl) hlen (weigh_ok (hO a1 at1))
    · have hp : ¬ r.take 1 = [123] := by simpa using hp
      have hp2 : r.take 2 = [60, 60] := by simpa using hp2
      rw [if_neg hp, if_pos hp2] at hO
      have hr := take_pos hp2
      refine list_ok (one := fun r h => rdV f r (deep + 1) h) ht hd (by simp) hG h1 h' (by simpa using hr) hd2 ?_
      have fl := @fitL [62, 62]
      revert hO fl
      cases rdList (fun r h => rdV f r (deep + 1) h) [62, 62] r deep heavy with
      | err e r' => exact fun hO _ => hO
      | ok l r1 hh =>
        intro hO fl a1 at1 hlen
        exact SequenceOf_ok (fl (by simp) (by simpa using hr) rfl) hlen (weigh_ok (hO a1 at1))
    · have hp : ¬ r.take 1 = [123] := by simpa using hp
      have hp2 : ¬ r.take 2 = [60, 60] := by simpa using hp2
      have hp3 : r.take 1 = [91] := by simpa using hp3
      rw [if_neg hp, if_neg hp2, if_pos hp3] at hO
      have hr := take_pos hp3
      refine pairs_ok (one := fun r h => rdV f r (deep + 1) h) ht hd hG h1 h' (by simpa using hr) hd2 ?_
      have fl : ∀ l r' h'', rdPairs (fun r h => rdV f r (deep + 1) h) r deep heavy = .ok l r' h'' → ∀ p ∈ l, Fit p.1 ∧ Fit p.2 := fun l r' h'' e => by
        unfold rdPairs at e
        split at e
        · cases e
        rename_i hd3
        have pr : ∀ r h v r' h', rdPair (fun r h => rdV f r (deep + 1) h) r h = .ok v r' h' → (Fit v.1 ∧ Fit v.2) ∧ ∃ p, r = p ++ r' ∧ 0 ≤ 25 * p.length := fun r h v r' h' e => by
          unfold rdPair at e
          split at e
          · cases e
          · rename_i k r1 h1' e1
            split at e
            · cases e
            · rename_i r2 e2
              split at e
              · cases e
              · rename_i w r3 h3 e3
                injection e with e4 e5 e6; subst e4 e5
                have b1 := rdV_post (by omega) e1
                have b3 := rdV_post (by omega) e3
                obtain ⟨p1, rfl, _, _⟩ := b1.took
                obtain ⟨p2, rfl, _⟩ := takeS_true e2
                obtain ⟨p3, rfl, _, _⟩ := b3.took
                exact ⟨⟨b1.fit, b3.fit⟩, p1 ++ (p2 ++ ([58] ++ p3)), by simp, by simp⟩
        obtain ⟨p, _, hall, _⟩ := rdFirst_post (Pr := fun p : VP => Fit p.1 ∧ Fit p.2) (W := fun _ => 0) pr e
        exact hall
      revert hO fl
      cases rdPairs (fun r h => rdV f r (deep + 1) h) r deep heavy with
      | err e r' => exact fun hO _ => hO
      | ok l r1 hh =>
        intro hO fl a1 at1 hlen
        have := fl l r1 hh rfl
        exact FunctionOf_ok (FitL_iff.2 fun x hx => by obtain ⟨p, hp, rfl⟩ := List.mem_map.1 hx; exact (this p hp).1) (FitL_iff.2 fun x hx => by obtain ⟨p, hp, rfl⟩ := List.mem_map.1 hx; exact (this p hp).2) (by simp) (by simpa using hlen) (weigh_ok (hO a1 at1))
    · have hp : ¬ r.take 1 = [123] := by simpa using hp
      have hp2 : ¬ r.take 2 = [60, 60] := by simpa using hp2
      have hp3 : ¬ r.take 1 = [91] := by simpa using hp3
      rw [if_neg hp, if_neg hp2, if_neg hp3] at hO
      refine single_ok (heavy := heavy) ht h' ?_
      have key : ∀ v r' h'', rdSingle r heavy = .ok v r' h'' → h'' = heavy := fun v r' h'' e => by
        have wd : ∀ {r w rest : Str} {m : Bool}, rdWord r w rest m heavy = .ok v r' h'' → h'' = heavy := fun {r w rest m} e => by
          unfold rdWord at e
          split at e
          · cases e
          · unfold rdNum at e
            repeat' split at e
            all_goals first | (cases e; done) | (injection e with _ _ e3; exact e3.symm)
        unfold rdSingle at e
        split at e
        · split at e
          · injection e with _ _ e3; exact e3.symm
          · cases e
        · split at e
          · exact wd e
          · exact wd e
      revert hO key
      cases rdSingle r heavy with
      | err e r' => exact fun hO _ => hO
      | ok v r1 hh =>
        intro hO key a1 at1
        have := hO a1 at1
        rw [key v r1 hh rfl] at this; exact this
theorem Read_ok {Q : Val → Int → Option Int → Prop} (hl : Len text) (h : Q (readV text).1 (readV text).2.1 (readV text).2.2) : V_Read text Q := by
  refine ⟨hl, fun h4 => ?_, fun h4 => ⟨26, ?_⟩⟩
  · unfold readV at h; rw [if_pos (by omega)] at h; exact h
  have ht : text.length ≤ 1000000 := by omega
  unfold readV at h; rw [if_neg (by omega)] at h
  refine value_ok ht 26 (by omega) (by omega) (by omega) (AtT.start text) ?_
  revert h
  cases rdV 26 text 0 false with
  | err e r => intro h a at_; have := at_.len; have := at_.pos; have := at_.le; exact ⟨by unfold I64; omega, by rw [at_.len]; exact h⟩
  | ok v r hh =>
    intro h a at_
    simp only at h
    refine skip_ok ht at_ fun a' at' => ?_
    have hal := at'.len
    refine ⟨fun hlt => ?_, fun hlt => ?_⟩
    · rw [if_pos (by intro e; rw [e] at hal; simp at hal; omega)] at h; rw [hal]; exact h
    · have : skipS r = [] := List.length_eq_zero_iff.1 (by omega)
      rw [if_neg (by simp [this])] at h
      refine ⟨fun hv => ?_, fun hv => ?_⟩
      · rw [if_pos hv] at h; exact h
      · rw [if_neg (by simp [hv])] at h; exact h
end
end Go.Vc
