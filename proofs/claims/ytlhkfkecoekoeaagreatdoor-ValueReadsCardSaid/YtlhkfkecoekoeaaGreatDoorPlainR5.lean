/- The document's reader, part 3: a value, a whole text; ValueOrders in plain words. No program in sight. -/
import Derived.Test.YtlhkfkecoekoeaaGreatDoorPlainR4
import Derived.Test.YtlhkfkecoekoeaaGreatDoorPlainV13
set_option linter.unusedVariables false
set_option linter.unusedSimpArgs false
namespace Go.Vc
theorem fit_wt {v : Val} (h : Fit v) : wtR (toR v) ≤ 1024 := by
  rw [wt_toR h.hv]
  cases v <;> simp only [Val.weightOf] <;> first | omega | exact h.2.1
theorem fitL_wt : ∀ {l : List Val}, FitL l → wtRL (toRL l) ≤ 1024 * l.length
  | [], _ => by simp [toRL, wtRL]
  | a :: l, h => by have := fit_wt h.1; have := fitL_wt h.2; simp only [toRL, wtRL, List.length_cons]; omega
theorem sign_cases {sign r r2 : Str} {b : Bool} (hr : skipS r = r) (e : takeS sign r = (b, r2)) : (b = true ∧ r = sign ++ r2) ∨ (b = false ∧ r2 = r ∧ ¬ r.take sign.length = sign) := by
  unfold takeS at e
  rw [hr] at e
  split at e
  · rename_i h
    left
    obtain ⟨rfl, rfl⟩ := Prod.mk.inj e
    exact ⟨rfl, by conv => lhs; rw [← List.take_append_drop sign.length r, h]⟩
  · rename_i h
    obtain ⟨rfl, rfl⟩ := Prod.mk.inj e
    exact Or.inr ⟨rfl, rfl, h⟩
section
variable {text r : Str} {a : Int}
theorem light_k (v : Val) : decide ((toR v).k = 0) = v.isNil := by
  rw [Bool.eq_iff_iff, decide_eq_true_eq]; exact toR_nil v
theorem rvalue_ok (ht : text.length ≤ 4000) : ∀ (f : Nat) {deep : Int}, 0 ≤ deep → deep ≤ 24 → 26 ≤ f + deep → ReadsR text deep (fun r h => rdV f r deep h) (V_rvalue f)
  | 0, deep, hd, hd2, hf => by omega
  | f + 1, deep, hd, hd2, hf => by
    have ht6 : text.length ≤ 1000000 := by omega
    refine ⟨fun {r0 a bad heavy Q} h hO => ?_, fun {r0 a e bad heavy Q} he h hQ => rskip_ok ht6 h fun a' h' => ⟨fun _ => hQ a' _ h', fun hn => absurd he hn⟩⟩
    refine rskip_ok ht6 h fun a1 at1 => ⟨fun hn => absurd rfl hn, fun _ => ?_⟩
    unfold rdV at hO
    have hr := skipS_skipS r0
    revert hO at1 hr
    simp only
    generalize skipS r0 = r
    intro at1 hO hr
    have hG : deep + 1 ≤ 24 → ReadsR text (deep + 1) (fun r h => rdV f r (deep + 1) h) (V_rvalue f) := fun hd3 => rvalue_ok ht f (by omega) hd3 (by omega)
    have h1 : deep + 1 ≤ 24 → ∀ r h v r' h', rdV f r (deep + 1) h = .ok v r' h' → wtR (toR v) ≤ 1024 ∧ ∃ p, r = p ++ r' ∧ 1 ≤ p.length := fun hd3 r h v r' h' e => by
      have := rdV_post hd3 e
      obtain ⟨p, a, b, c⟩ := this.took; exact ⟨fit_wt this.fit, p, a, b⟩
    have fitL : ∀ {last : Str} {l : List Val} {r' : Str} {h'' : Bool}, 1 ≤ last.length → last.length ≤ r.length → rdList (fun r h => rdV f r (deep + 1) h) last r deep heavy = .ok l r' h'' → FitL l := fun {last l r' h''} hl1 hl2 e => by
      have hd3 : deep + 1 ≤ 24 := by unfold rdList at e; split at e <;> first | (cases e; done) | omega
      obtain ⟨_, p, _, hall, _⟩ := rdList_post (Pr := Fit) (W := shl) (fun r h v r' h' e => by
        have := rdV_post hd3 e; obtain ⟨p, a, b, c⟩ := this.took; exact ⟨this.fit, p, a, c⟩) hl1 e hl2
      exact FitL_iff.2 hall
    refine rsign_ok ht6 (by simp) at1 fun b r2 a2 e2 at2 => ?_
    rcases sign_cases hr e2 with ⟨rfl, er⟩ | ⟨rfl, rfl, hn1⟩
    · refine ⟨fun _ => ?_, fun hn => by cases hn⟩
      rw [if_pos (by rw [er]; rfl)] at hO
      have fl := @fitL [125]
      rw [er] at at1
      refine rlist_ok (one := fun r h => rdV f r (deep + 1) h) (sign := [123]) ht hd hd2 (by simp) rfl hG h1 at1 at2 ?_
      rw [← er]
      revert hO fl
      rcases rdList (fun r h => rdV f r (deep + 1) h) [125] r deep heavy with ⟨l, r1, hh⟩ | ⟨e, r'⟩
      · intro hO fl a3 at3 hlen
        have fl := fl (by simp) (by rw [er]; simp) rfl
        refine rSetOf_ok (by rw [toRL_len]; omega) (by have := fitL_wt fl; omega) (rlight_ok ?_)
        rw [setR_toR fl.hv, light_k]
        exact hO a3 at3
      · intro hO fl he w a' s a3 h' hlen hw at' at3
        exact rSetOf_ok (by omega) (by omega) (rlight_ok (hO he (setR w) a' s a3 _ (lightR_le _) at' at3))
    refine ⟨fun hn => (by cases hn), fun _ => ?_⟩
    rw [if_neg (by simpa using hn1)] at hO
    refine rsign_ok ht6 (by simp) at2 fun b r2' a3 e3 at3 => ?_
    rcases sign_cases hr e3 with ⟨rfl, er⟩ | ⟨rfl, rfl, hn2⟩
    · refine ⟨fun _ => ?_, fun hn => by cases hn⟩
      rw [if_pos (by rw [er]; rfl)] at hO
      have fl := @fitL [62, 62]
      rw [er] at at1
      refine rlist_ok (one := fun r h => rdV f r (deep + 1) h) (sign := [60, 60]) ht hd hd2 (by simp) rfl hG h1 at1 at3 ?_
      rw [← er]
      revert hO fl
      rcases rdList (fun r h => rdV f r (deep + 1) h) [62, 62] r2 deep heavy with ⟨l, r1, hh⟩ | ⟨e, r'⟩
      · intro hO fl a3 at3 hlen
        have fl := fl (by simp) (by rw [er]; simp) rfl
        refine rSeqOf_ok (by rw [toRL_len]; omega) (by have := fitL_wt fl; omega) (rlight_ok ?_)
        rw [seqR_toR fl.hv, light_k]
        exact hO a3 at3
      · intro hO fl he w a' s a3 h' hlen hw at' at3
        exact rSeqOf_ok (by omega) (by omega) (rlight_ok (hO he (seqR w) a' s a3 _ (lightR_le _) at' at3))
    refine ⟨fun hn => (by cases hn), fun _ => ?_⟩
    rw [if_neg (by simpa using hn2)] at hO
    refine rsign_ok ht6 (by simp) at3 fun b r2'' a4 e4 at4 => ?_
    rcases sign_cases hr e4 with ⟨rfl, er⟩ | ⟨rfl, rfl, hn3⟩
    · refine ⟨fun _ => ?_, fun hn => by cases hn⟩
      rw [if_pos (by rw [er]; rfl)] at hO
      have fl : ∀ l r' h'', rdPairs (fun r h => rdV f r (deep + 1) h) r2' deep heavy = .ok l r' h'' → ∀ p ∈ l, Fit p.1 ∧ Fit p.2 := fun l r' h'' e => by
        unfold rdPairs at e
        split at e
        · cases e
        rename_i hd3
        have pr : ∀ r h v r' h', rdPair (fun r h => rdV f r (deep + 1) h) r h = .ok v r' h' → (Fit v.1 ∧ Fit v.2) ∧ ∃ p, r = p ++ r' ∧ 0 ≤ 25 * p.length := fun r h v r' h' e => by
          unfold rdPair at e
          split at e
          · cases e
          · rename_i k r1 h1' e1
            split at e
            · cases e
            · rename_i r2 e2
              split at e
              · cases e
              · rename_i w r3 h3 e3
                injection e with e4 e5 e6; subst e4 e5
                have b1 := rdV_post (by omega) e1
                have b3 := rdV_post (by omega) e3
                obtain ⟨p1, rfl, _, _⟩ := b1.took
                obtain ⟨p2, rfl, _⟩ := takeS_true e2
                obtain ⟨p3, rfl, _, _⟩ := b3.took
                exact ⟨⟨b1.fit, b3.fit⟩, p1 ++ (p2 ++ ([58] ++ p3)), by simp, by simp⟩
        obtain ⟨p, _, hall, _⟩ := rdFirst_post (Pr := fun p : VP => Fit p.1 ∧ Fit p.2) (W := fun _ => 0) pr e
        exact hall
      rw [er] at at1
      refine rpairs_ok (one := fun r h => rdV f r (deep + 1) h) (sign := [91]) ht hd hd2 rfl hG h1 at1 at4 ?_
      rw [← er]
      revert hO fl
      rcases rdPairs (fun r h => rdV f r (deep + 1) h) r2' deep heavy with ⟨l, r1, hh⟩ | ⟨e, r'⟩
      · intro hO fl a3 at3 hlen
        have fl := fl l r1 hh rfl
        have fk : FitL (l.map (·.1)) := FitL_iff.2 fun x hx => by obtain ⟨p, hp, rfl⟩ := List.mem_map.1 hx; exact (fl p hp).1
        have fv : FitL (l.map (·.2)) := FitL_iff.2 fun x hx => by obtain ⟨p, hp, rfl⟩ := List.mem_map.1 hx; exact (fl p hp).2
        refine ⟨fun hn => absurd rfl hn, fun _ => rFunOf_ok (by rw [toRL_len]; simp; omega) (by rw [toRL_len, toRL_len]; simp) (by have := fitL_wt fk; have := fitL_wt fv; simp at *; omega) (rlight_ok ?_)⟩
        rw [funR_toR fk.hv fv.hv, light_k]
        exact hO a3 at3
      · intro hO fl he ks vs a' s a3 h' at' at3
        exact ⟨fun _ => hO he nilR a' s a3 h' nilR_wt at' at3, fun hn => absurd he hn⟩
    refine ⟨fun hn => (by cases hn), fun _ => ?_⟩
    rw [if_neg (by simpa using hn3)] at hO
    refine rsingle_ok (heavy := heavy) ht6 at4 ?_
    have key : ∀ v r' h'', rdSingle r2'' heavy = .ok v r' h'' → h'' = heavy := fun v r' h'' e => by
      have wd : ∀ {r w rest : Str} {m : Bool}, rdWord r w rest m heavy = .ok v r' h'' → h'' = heavy := fun {r w rest m} e => by
        unfold rdWord at e
        split at e
        · cases e
        · unfold rdNum at e
          repeat' split at e
          all_goals first | (cases e; done) | (injection e with _ _ e3; exact e3.symm)
      unfold rdSingle at e
      split at e
      · split at e
        · injection e with _ _ e3; exact e3.symm
        · cases e
      · split at e
        · exact wd e
        · exact wd e
    revert hO key
    rcases rdSingle r2'' heavy with ⟨v, r1, hh⟩ | ⟨e, r'⟩
    · intro hO key a1 at1
      have := hO a1 at1
      rw [key v r1 hh rfl] at this; exact this
    · intro hO key he w a' s a3 hw at' at3
      exact hO he w a' s a3 heavy hw at' at3
theorem rRead_ok {Q : RV → Int → Int → Prop} (hl : Len text) (h : Q (toR (readV text).1) (readV text).2.1 ((readV text).2.2.getD 0)) : V_rRead text Q := by
  refine ⟨hl, fun h4 => ?_, fun h4 => ⟨26, ?_⟩⟩
  · unfold readV at h; rw [if_pos (by omega)] at h; exact h
  have ht : text.length ≤ 4000 := by omega
  have ht6 : text.length ≤ 1000000 := by omega
  unfold readV at h; rw [if_neg (by omega)] at h
  refine (rvalue_ok ht 26 (by omega) (by omega) (by omega)).1 (AtT.start text) ?_
  revert h
  show _ → OutR text 0 0 _ (rdV 26 text 0 false)
  rcases rdV 26 text 0 false with ⟨v, r, hh⟩ | ⟨e, r⟩
  · intro h a at_
    simp only at h
    refine rskip_ok ht6 at_ fun a' at' => ?_
    have hal := at'.len
    have hae := at'.le
    refine VMeet_go (VMeet_go ⟨fun _ => ⟨hl, ⟨fun hlt => ?_, fun hlt => ?_⟩⟩, fun hn => absurd rfl hn⟩)
    · have hlt := of_decide_eq_true hlt
      rw [if_pos (by intro e; rw [e] at hal; simp at hal; omega)] at h
      refine ⟨fun _ => VMeet_go (VMeet_go ⟨fun hn => absurd hn (by decide), fun _ => ⟨fun hn => by simp at hn, fun _ => ⟨fun _ => ?_, fun hn => absurd (by decide) hn⟩⟩⟩), fun hn => absurd rfl hn⟩
      rw [hal]; exact h
    · have hlt := of_decide_eq_false hlt
      have : skipS r = [] := List.length_eq_zero_iff.1 (by omega)
      rw [if_neg (by simp [this])] at h
      refine VMeet_go (VMeet_go ⟨fun _ => ⟨fun hv => ?_, fun hv => ?_⟩, fun hn => absurd rfl hn⟩)
      · rw [if_pos hv] at h
        exact ⟨fun _ => ⟨fun _ => h, fun hn => absurd (by decide) hn⟩, fun hn => absurd rfl hn⟩
      · rw [if_neg (by simp [hv])] at h
        exact ⟨fun hn => absurd rfl hn, fun _ => h⟩
  · intro h he w a' s a h' hw at' at_
    refine rskip_ok ht6 at' fun a2 at2 => VMeet_go (VMeet_go ⟨fun hn => absurd hn he, fun _ => ⟨fun hn => by simp at hn, fun _ => VMeet_go (VMeet_go ⟨fun hn => absurd hn he, fun _ => ⟨fun hn => by simp at hn, fun _ => ⟨fun _ => ?_, fun hn => absurd he hn⟩⟩⟩)⟩⟩)
    rw [at_.len]; exact h
end
end Go.Vc
