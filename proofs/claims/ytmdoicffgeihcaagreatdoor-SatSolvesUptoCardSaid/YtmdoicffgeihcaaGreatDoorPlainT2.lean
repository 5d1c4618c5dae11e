/- Closed sets of literals; lines that follow clause by clause. No program in sight. -/
import Derived.Test.YtmdoicffgeihcaaGreatDoorPlainT1
set_option linter.unusedVariables false
namespace Go.Vc
/-- A set of literals from which nothing more follows, clause by clause. -/
def Clo (n : Int) (L : List (List Int)) (T : Int → Prop) : Prop := (∀ l, isLit n l = true → T l → ¬ T (-l)) ∧ ∀ g ∈ L, (∃ x ∈ g, T x) ∨ ∃ a ∈ g, ∃ b ∈ g, a ≠ b ∧ ¬ T (-a) ∧ ¬ T (-b)
/-- A line that follows. -/
def RUP (n : Int) (L : List (List Int)) (c : List Int) : Prop := ∀ T, Clo n L T → (∀ x ∈ c, T (-x)) → False
theorem Clo.sub {n : Int} {L M : List (List Int)} {T : Int → Prop} (h : Clo n M T) (hs : ∀ g ∈ L, g ∈ M) : Clo n L T := ⟨h.1, fun g hg => h.2 g (hs g hg)⟩
theorem RUP.sup {n : Int} {L M : List (List Int)} {c : List Int} (h : RUP n L c) (hs : ∀ g ∈ L, g ∈ M) : RUP n M c := fun T hT hc => h T (hT.sub hs) hc
/-- All but one of a clause's literals are false: that one is so. -/
theorem Clo.unit {n : Int} {L : List (List Int)} {T : Int → Prop} (h : Clo n L T) {g C : List Int} (hg : g ∈ L) (hgc : ∀ x, x ∈ g ↔ x ∈ C) (hC : litsOk n C = true) {t : Int} (hf : ∀ x ∈ C, x ≠ t → T (-x)) : T t := by
  have key : ∀ x ∈ g, T x → x = t := fun x hx hT => by
    by_cases e : x = t
    · exact e
    · exact absurd (hf x ((hgc x).1 hx) e) (h.1 x (mem_lits hC ((hgc x).1 hx)) hT)
  rcases h.2 g hg with ⟨x, hx, hT⟩ | ⟨a, ha, b, hb, hab, h1, h2⟩
  · have := key x hx hT; subst this; exact hT
  · by_cases e : a = t
    · subst e
      exact absurd (hf b ((hgc b).1 hb) (fun e => hab e.symm)) h2
    · exact absurd (hf a ((hgc a).1 ha) e) h1
theorem Clo.none {n : Int} {L : List (List Int)} {T : Int → Prop} (h : Clo n L T) {g C : List Int} (hg : g ∈ L) (hgc : ∀ x, x ∈ g ↔ x ∈ C) (hC : litsOk n C = true) (hf : ∀ x ∈ C, T (-x)) : False := by
  rcases h.2 g hg with ⟨x, hx, hT⟩ | ⟨a, ha, b, hb, hab, h1, h2⟩
  · exact h.1 x (mem_lits hC ((hgc x).1 hx)) hT (hf x ((hgc x).1 hx))
  · exact h1 (hf a ((hgc a).1 ha))
/-! ### The document's way of following -/
theorem valOf_setv {n : Int} (hn : okN n) {val : List Int} (hv : Vals n val) {l x : Int} (hl : isLit n l = true) (hx : isLit n x = true) : valOf (setv val l) x = if x = l then 1 else if x = -l then -1 else valOf val x := by
  have hi := hv.in hn hl
  have hin : (av l).toNat < val.length := by have := hi.2; have := hi.1; omega
  rw [isLit_iff] at hl hx
  by_cases he : av x = av l
  · have hix : ix (setv val l) (av x) = sgn l := by
      rw [he]; unfold ix setv
      rw [List.getD_eq_getElem?_getD, List.getElem?_set_self hin]; rfl
    unfold valOf
    rw [hix]
    unfold sgn av at *
    by_cases h1 : x = l
    · subst h1; rw [if_pos rfl]; split <;> simp_all
    · have h2 : x = -l := by omega
      rw [if_neg h1, if_pos h2]
      by_cases h3 : x < 0
      · rw [if_pos h3, if_neg (by omega)]
      · rw [if_neg h3, if_pos (by omega)]
  · have hix : ix (setv val l) (av x) = ix val (av x) := by
      unfold ix setv
      rw [List.getD_eq_getElem?_getD, List.getD_eq_getElem?_getD, List.getElem?_set_ne (by unfold av at *; omega)]
    have h1 : ¬ x = l := fun e => he (by rw [e])
    have h2 : ¬ x = -l := fun e => he (by rw [e]; unfold av; omega)
    rw [if_neg h1, if_neg h2]
    unfold valOf
    rw [hix]
theorem unit_two {val : List Int} : ∀ (c : List Int) (o : Int), (unitGo val o c).2 = 2 → (∃ x ∈ c, 0 < valOf val x) ∨ ∃ a b, ((a = o ∧ o ≠ 0) ∨ (a ∈ c ∧ valOf val a = 0)) ∧ b ∈ c ∧ valOf val b = 0 ∧ a ≠ b
  | [], o, h => by unfold unitGo at h; split at h <;> simp_all
  | l :: ls, o, h => by
    unfold unitGo at h
    split at h
    · rename_i h1; exact .inl ⟨l, by simp, h1⟩
    · split at h
      · rename_i h1 h2
        exact .inr ⟨o, l, .inl ⟨rfl, h2.2.1⟩, by simp, h2.1, fun e => h2.2.2 e.symm⟩
      · split at h
        · rename_i h1 h2 h3
          rcases unit_two ls l h with ⟨x, hx, hp⟩ | ⟨a, b, ha, hb, hb0, hab⟩
          · exact .inl ⟨x, by simp [hx], hp⟩
          · refine .inr ⟨a, b, ?_, by simp [hb], hb0, hab⟩
            rcases ha with ⟨rfl, _⟩ | ⟨ha, ha0⟩
            · exact .inr ⟨by simp, h3⟩
            · exact .inr ⟨by simp [ha], ha0⟩
        · rcases unit_two ls o h with ⟨x, hx, hp⟩ | ⟨a, b, ha, hb, hb0, hab⟩
          · exact .inl ⟨x, by simp [hx], hp⟩
          · refine .inr ⟨a, b, ?_, by simp [hb], hb0, hab⟩
            rcases ha with ha | ⟨ha, ha0⟩
            · exact .inl ha
            · exact .inr ⟨by simp [ha], ha0⟩
theorem passF_true : ∀ (cs : List (List Int)) (val v : List Int) (m : Bool), passF cs val true = some (v, m) → m = true
  | [], _, _, _, h => by simp [passF] at h; exact h.2
  | c :: cs, val, v, m, h => by
    unfold passF at h
    split at h
    · cases h
    · split at h
      · exact passF_true cs _ v m h
      · exact passF_true cs _ v m h
theorem passF_still : ∀ (cs : List (List Int)) (val v : List Int), passF cs val false = some (v, false) → v = val ∧ ∀ c ∈ cs, (unitGo val 0 c).2 = 2
  | [], _, _, h => by simp [passF] at h; exact ⟨h.symm, fun c hc => by cases hc⟩
  | c :: cs, val, v, h => by
    unfold passF at h
    split at h
    · cases h
    · split at h
      · have := passF_true cs _ v _ h; cases this
      · rename_i h0 h1
        obtain ⟨g1, g2⟩ := passF_still cs val v h
        refine ⟨g1, fun d hd => ?_⟩
        rcases List.mem_cons.1 hd with rfl | hd
        · rcases unitGo_cases val d 0 with h | h | ⟨h, _⟩
          · exact absurd h h0
          · exact h
          · exact absurd h h1
        · exact g2 d hd
section
variable {n : Int} (hn : okN n)
include hn
theorem setv_keeps {val : List Int} (hv : Vals n val) {l x : Int} (hl : isLit n l = true) (hx : isLit n x = true) (h0 : valOf val l ≠ -1) (h : valOf val x = 1) : valOf (setv val l) x = 1 := by
  rw [valOf_setv hn hv hl hx]
  by_cases e1 : x = l
  · rw [if_pos e1]
  · rw [if_neg e1]
    by_cases e2 : x = -l
    · rw [e2, valOf_neg val (by rw [isLit_iff] at hl; exact hl.1)] at h; omega
    · rw [if_neg e2]; exact h
theorem passF_keeps : ∀ {cs : List (List Int)} {val v : List Int} {more m : Bool}, Vals n val → cs.all (litsOk n) = true → passF cs val more = some (v, m) → ∀ x, isLit n x = true → valOf val x = 1 → valOf v x = 1
  | [], val, v, more, m, _, _, h, x, _, hx => by simp [passF] at h; rw [← h.1]; exact hx
  | c :: cs, val, v, more, m, hv, hc, h, x, hxl, hx => by
    rw [List.all_cons, Bool.and_eq_true] at hc
    unfold passF at h
    split at h
    · cases h
    · split at h
      · rename_i h1
        obtain ⟨h2, h3⟩ := unit_one h1
        exact passF_keeps hv.set hc.2 h x hxl (setv_keeps hn hv (mem_lits hc.1 h2) hxl (by omega) hx)
      · exact passF_keeps hv hc.2 h x hxl hx
theorem propag_still {cs : List (List Int)} (hc : cs.all (litsOk n) = true) : ∀ (k : Nat) (val v : List Int), Vals n val → propag cs k val = some v → Vals n v ∧ (∀ c ∈ cs, (unitGo v 0 c).2 = 2) ∧ ∀ x, isLit n x = true → valOf val x = 1 → valOf v x = 1
  | 0, _, _, _, h => by cases h
  | k + 1, val, v, hv, h => by
    unfold propag at h
    cases hp : passF cs val false with
    | none => rw [hp] at h; cases h
    | some r =>
      obtain ⟨u, m⟩ := r
      rw [hp] at h
      obtain ⟨g1, _, _⟩ := pass_ok hn hv hc hp
      cases m with
      | false =>
        simp only [Option.some.injEq] at h
        subst h
        obtain ⟨rfl, g3⟩ := passF_still cs val _ hp
        exact ⟨hv, g3, fun x _ hx => hx⟩
      | true =>
        obtain ⟨g4, g5, g6⟩ := propag_still hc k u v g1 h
        exact ⟨g4, g5, fun x hl hx => g6 x hl (passF_keeps hn hv hc hp x hl hx)⟩
theorem setAll_keeps : ∀ {ls val v : List Int}, Vals n val → litsOk n ls = true → setAll ls val = some v → Vals n v ∧ (∀ x ∈ ls, valOf v x = 1) ∧ ∀ x, isLit n x = true → valOf val x = 1 → valOf v x = 1
  | [], val, v, hv, _, h => by cases h; exact ⟨hv, fun x hx => (by cases hx), fun x _ hx => hx⟩
  | l :: ls, val, v, hv, hl, h => by
    have hl' : isLit n l = true ∧ litsOk n ls = true := by simpa [litsOk] using hl
    unfold setAll at h
    split at h
    · cases h
    · rename_i h0
      obtain ⟨g1, g2, g3⟩ := setAll_keeps hv.set hl'.2 h
      refine ⟨g1, fun x hx => ?_, fun x hxl hx => g3 x hxl (setv_keeps hn hv hl'.1 hxl h0 hx)⟩
      rcases List.mem_cons.1 hx with rfl | hx
      · exact g3 x hl'.1 (by rw [valOf_setv hn hv hl'.1 hl'.1, if_pos rfl])
      · exact g2 x hx
theorem rup_follow {L : List (List Int)} (hL : L.all (litsOk n) = true) {c : List Int} (hc : litsOk n c = true) (h : RUP n L c) : followF n L (neg c) = none := by
  cases hf : followF n L (neg c) with
  | none => rfl
  | some v =>
    exfalso
    unfold followF at hf
    cases hs : setAll (neg c) (start n) with
    | none => rw [hs] at hf; cases hf
    | some u =>
      rw [hs, Option.bind_some] at hf
      obtain ⟨g1, g2, _⟩ := setAll_keeps hn (start_vals n) (neg_lits hc) hs
      obtain ⟨g3, g4, g5⟩ := propag_still hn hL _ _ _ g1 hf
      refine h (fun l => isLit n l = true ∧ valOf v l = 1) ⟨fun l hl h1 h2 => ?_, fun g hg => ?_⟩ fun x hx => ?_
      · have := valOf_neg v (l := l) (by rw [isLit_iff] at hl; exact hl.1)
        omega
      · have hgl := List.all_eq_true.1 hL g hg
        rcases unit_two g 0 (g4 g hg) with ⟨x, hx, hp⟩ | ⟨a, b, ha, hb, hb0, hab⟩
        · refine .inl ⟨x, hx, mem_lits hgl hx, ?_⟩
          rcases g3.of x with h | h | h <;> omega
        · rcases ha with ⟨_, h0⟩ | ⟨ha, ha0⟩
          · exact absurd rfl h0
          · refine .inr ⟨a, ha, b, hb, hab, fun hh => ?_, fun hh => ?_⟩
            · have := valOf_neg v (l := a) (by have := mem_lits hgl ha; rw [isLit_iff] at this; exact this.1)
              omega
            · have := valOf_neg v (l := b) (by have := mem_lits hgl hb; rw [isLit_iff] at this; exact this.1)
              omega
      · have hxl := lit_neg (mem_lits hc hx)
        exact ⟨hxl, g5 _ hxl (g2 (-x) (List.mem_map.2 ⟨x, hx, rfl⟩))⟩
theorem show_rup : ∀ (lines : List (List Int)) (l : List (List Int)) (shown : Bool), l.all (litsOk n) = true → (∀ c ∈ lines, litsOk n c = true) → (∀ k c, lines[k]? = some c → RUP n (l ++ lines.take k) c) →
    showGo n l shown (lines.map fun c => (false, c)) = (shown || lines.any fun c => decide (c = []))
  | [], l, shown, _, _, _ => by simp [showGo]
  | c :: lines, l, shown, hl, hc, h => by
    have h0 := rup_follow hn hl (hc c (by simp)) (by simpa using h 0 c rfl)
    simp only [List.map_cons, showGo, Bool.false_eq_true, if_false, h0, Option.isSome_none]
    rw [show_rup lines (l ++ [c]) _ (by rw [List.all_append, hl]; simp [hc c (by simp)]) (fun d hd => hc d (List.mem_cons_of_mem _ hd)) (fun k d hd => ?_)]
    · simp [Bool.or_assoc]
    · have := h (k + 1) d (by simpa using hd)
      simpa [List.append_assoc] using this
end
end Go.Vc
