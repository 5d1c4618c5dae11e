/- Diagrams in plain words, part 7: how many nodes, told of functions alone; sorting by counts. No program in sight. -/
import Derived.Test.YtceipmldngeagaaPlainB6
set_option linter.unusedVariables false
set_option linter.unusedSimpArgs false
namespace Go.Vc
variable {n : Int} {order level : List Int} {G : List Fn} {T : Tb}
open Classical in
/-- The topmost variable that a function hangs on. -/
noncomputable def top (order : List Int) (f : Fn) : Option Int := order.find? fun v => decide (cof f v false ≠ cof f v true)
/-- The functions of the diagrams of some. -/
inductive RF (order : List Int) (fs : List Fn) : Fn → Prop
  | base {f} : f ∈ fs → RF order fs f
  | step {g v b} : RF order fs g → top order g = some v → RF order fs (cof g v b)
structure SizeList (order : List Int) (fs : List Fn) (l : List Fn) : Prop where
  nd : l.Nodup
  mem : ∀ f, f ∈ l ↔ RF order fs f ∧ (top order f).isSome
theorem SizeList.perm {order : List Int} {fs l m : List Fn} (h : SizeList order fs l) (k : SizeList order fs m) : l.Perm m :=
  (List.perm_ext_iff_of_nodup h.nd k.nd).2 fun f => (h.mem f).trans (k.mem f).symm
open Classical in
noncomputable def szF (order : List Int) (fs : List Fn) : Nat := if h : ∃ l, SizeList order fs l then (Classical.choose h).length else 0
open Classical in
noncomputable def cntF (order : List Int) (fs : List Fn) (v : Int) : Nat := if h : ∃ l, SizeList order fs l then (Classical.choose h).countP fun f => decide (top order f = some v) else 0
theorem SizeList.sz {order : List Int} {fs l : List Fn} (h : SizeList order fs l) : szF order fs = l.length := by
  unfold szF
  have hx : ∃ l, SizeList order fs l := ⟨l, h⟩
  rw [dif_pos hx]
  exact (Classical.choose_spec hx |>.perm h).length_eq
open Classical in
theorem SizeList.cnt {order : List Int} {fs l : List Fn} (h : SizeList order fs l) (v : Int) : cntF order fs v = l.countP fun f => decide (top order f = some v) := by
  unfold cntF
  have hx : ∃ l, SizeList order fs l := ⟨l, h⟩
  rw [dif_pos hx]
  exact (Classical.choose_spec hx |>.perm h).countP_eq _
theorem top_const {b : Bool} : top order (fun _ => b) = none := by
  unfold top
  rw [List.find?_eq_none]
  intro v _
  have : cof (fun _ => b) v false = cof (fun _ => b) v true := rfl
  simp [this]
theorem top_node (h : Ok n order level G T) (hl : T.lim = []) {k : Int × Int × Int} {i : Int} (he : Ent n level T k i) (hi : T.kn i) : top order (T.F i) = some k.1 := by
  unfold top
  have lv := h.ord.lv k.1 he.v0 he.vn
  have ho := h.ord.lo
  rw [List.find?_eq_some_iff_append]
  refine ⟨by simpa using h.hangs hl he, order.take (ix level k.1).toNat, order.drop (ix level k.1 + 1).toNat, ?_, fun a ha => ?_⟩
  · have := h.ord.drop lv.1 lv.2.1
    rw [lv.2.2] at this
    rw [← this, List.take_append_drop]
  · obtain ⟨q, hq, e⟩ := List.mem_iff_getElem.1 ha
    rw [List.length_take] at hq
    rw [List.getElem_take] at e
    have hq1 : q < order.length := by omega
    have h1 := h.ord.ol (q : Int) (by omega) (by omega)
    have h3 := ix_get (xs := order) (i := (q : Int)) (by omega) (by omega)
    rw [Int.toNat_natCast, List.getElem?_eq_getElem hq1] at h3
    rw [← Option.some.inj h3, e] at h1
    have hi := h.ind hl hi h1.1 h1.2.1 (by rw [he.dp]; omega)
    simp [hi]
theorem AllOk.sizeList (h : Ok n order level G T) (hl : T.lim = []) {fs : List Int} (hf : ∀ f ∈ fs, T.kn f) {s : List (Int × Int)} (hs : AllOk T fs s) : SizeList order (fs.map T.F) ((keys s).map T.F) := by
  have hlive : ∀ x ∈ keys s, T.live x := fun x hx => by obtain ⟨p, hp, rfl⟩ := List.mem_map.1 hx; exact (hs.io.one p hp).2
  refine ⟨?_, fun f => ⟨fun hm => ?_, fun hm => ?_⟩⟩
  · have key : ∀ l : List Int, l.Nodup → (∀ x ∈ l, T.live x) → (l.map T.F).Nodup := by
      intro l
      induction l with
      | nil => intro _ _; simp
      | cons p l ih =>
        intro h1 h2
        rw [List.nodup_cons] at h1
        rw [List.map_cons, List.nodup_cons]
        refine ⟨fun hm => ?_, ih h1.2 fun q hq => h2 q (List.mem_cons_of_mem _ hq)⟩
        obtain ⟨q, hq, hqe⟩ := List.mem_map.1 hm
        have := h.inj hl (kn_live (h2 q (List.mem_cons_of_mem _ hq))) (kn_live (h2 p (by simp))) hqe
        subst this; exact h1.1 hq
    exact key _ hs.io.nd hlive
  · obtain ⟨x, hx, rfl⟩ := List.mem_map.1 hm
    obtain ⟨f, hf', hr⟩ := hs.rc x hx
    have key : ∀ {f x}, Rch T f x → RF order (fs.map T.F) (T.F f) → RF order (fs.map T.F) (T.F x) := by
      intro f x hr
      induction hr with
      | self => exact fun h => h
      | low hk _ ih =>
        intro hrf
        have en := h.ent _ _ hk
        have c0 := h.cofs hl en false
        simp only [Bool.false_eq_true, if_false] at c0
        refine ih ?_
        rw [← c0]; exact .step hrf (top_node h hl en (kn_live ⟨_, hk⟩))
      | up hk _ ih =>
        intro hrf
        have en := h.ent _ _ hk
        have c0 := h.cofs hl en true
        simp only [if_true] at c0
        refine ih ?_
        rw [← c0]; exact .step hrf (top_node h hl en (kn_live ⟨_, hk⟩))
    obtain ⟨k, hk⟩ := hlive x hx
    exact ⟨key hr (.base (List.mem_map_of_mem hf')), by rw [top_node h hl (h.ent _ _ hk) (kn_live ⟨_, hk⟩)]; rfl⟩
  · obtain ⟨hr, ht⟩ := hm
    have key : ∀ {f}, RF order (fs.map T.F) f → ∃ x, T.kn x ∧ f = T.F x ∧ (x ≤ 1 ∨ x ∈ keys s) := by
      intro f hr
      induction hr with
      | base hm =>
        obtain ⟨x, hx, rfl⟩ := List.mem_map.1 hm
        exact ⟨x, hf x hx, rfl, hs.has x hx⟩
      | step _ ht ih =>
        rename_i g v b _
        obtain ⟨x, kx, rfl, hx⟩ := ih
        rcases h.kn_case hl kx with rfl | rfl | ⟨k, k1, k2⟩
        · rw [h.f0, top_const] at ht; cases ht
        · rw [h.f1, top_const] at ht; cases ht
        · rw [top_node h hl k2 kx] at ht
          obtain rfl := Option.some.inj ht
          have := hs.dn x (hx.resolve_left (by have := k2.i2; omega)) k k1
          have c0 := h.cofs hl k2 b
          cases b
          · exact ⟨k.2.1, k2.kl, by simpa using c0, this.1⟩
          · exact ⟨k.2.2, k2.ku, by simpa using c0, this.2⟩
    obtain ⟨x, kx, rfl, hx⟩ := key hr
    rcases h.kn_case hl kx with rfl | rfl | ⟨k, k1, k2⟩
    · rw [h.f0, top_const] at ht; cases ht
    · rw [h.f1, top_const] at ht; cases ht
    · exact List.mem_map_of_mem (hx.resolve_left (by have := k2.i2; omega))
theorem Size_sz (h : Ok n order level G T) (hl : T.lim = []) {fs : List Int} (hf : ∀ f ∈ fs, T.kn f) {Q : Int → Prop} (k : Q (szF order (fs.map T.F))) : V_Size T.nodes T.free T.ms order level T.memo fs Q :=
  Size_ok h hl hf fun s hs => by
    have := (hs.sizeList h hl hf).sz
    rw [List.length_map] at this
    have e : s.length = (keys s).length := by simp [keys]
    rw [e, ← this]; exact k
/-! ### Sorted by counts, the first of equals first -/
def rg (i n : Int) : List Int := (List.range (n - i).toNat).map fun q : Nat => i + q
theorem rg_cons {i n : Int} (h : i < n) : rg i n = i :: rg (i + 1) n := by
  have : (n - i).toNat = (n - (i + 1)).toNat + 1 := by omega
  unfold rg
  rw [this, List.range_succ_eq_map, List.map_cons, List.map_map]
  refine congr (congrArg _ (by simp)) (List.map_congr_left fun q _ => ?_)
  simp; omega
theorem rg_nil {i n : Int} (h : n ≤ i) : rg i n = [] := by
  have : (n - i).toNat = 0 := by omega
  simp [rg, this]
theorem mem_rg {i n x : Int} : x ∈ rg i n ↔ i ≤ x ∧ x < n := by
  unfold rg
  rw [List.mem_map]
  constructor
  · rintro ⟨q, hq, rfl⟩; have := List.mem_range.1 hq; omega
  · rintro ⟨a, b⟩; exact ⟨(x - i).toNat, List.mem_range.2 (by omega), by omega⟩
theorem rg_length {i n : Int} : (rg i n).length = (n - i).toNat := by simp [rg]
def Bf (c : Int → Int) (x y : Int) : Prop := c y < c x ∨ (c x = c y ∧ x < y)
theorem Bf.trans {c : Int → Int} {x y z : Int} (h : Bf c x y) (k : Bf c y z) : Bf c x z := by unfold Bf at *; omega
/-- The variables in the order in which they are moved. -/
structure Srt (c : Int → Int) (n : Int) (vs : List Int) : Prop where
  pw : vs.Pairwise (Bf c)
  mem : ∀ x, x ∈ vs ↔ 0 ≤ x ∧ x < n
theorem pairwise_ext {α : Type} {R : α → α → Prop} (has : ∀ a b, R a b → R b a → False) : ∀ {l m : List α}, l.Pairwise R → m.Pairwise R → (∀ x, x ∈ l ↔ x ∈ m) → l = m
  | [], [], _, _, _ => rfl
  | [], b :: m, _, _, h => absurd ((h b).2 (by simp)) (by simp)
  | a :: l, [], _, _, h => absurd ((h a).1 (by simp)) (by simp)
  | a :: l, b :: m, hl, hm, h => by
    rw [List.pairwise_cons] at hl hm
    have hab : a = b := by
      rcases List.mem_cons.1 ((h a).1 (by simp)) with e | e
      · exact e
      · rcases List.mem_cons.1 ((h b).2 (by simp)) with e' | e'
        · exact e'.symm
        · exact (has _ _ (hl.1 b e') (hm.1 a e)).elim
    subst hab
    refine congrArg _ (pairwise_ext has hl.2 hm.2 fun x => ⟨fun hx => ?_, fun hx => ?_⟩)
    · rcases List.mem_cons.1 ((h x).1 (List.mem_cons_of_mem _ hx)) with e | e
      · subst e; exact (has _ _ (hl.1 _ hx) (hl.1 _ hx)).elim
      · exact e
    · rcases List.mem_cons.1 ((h x).2 (List.mem_cons_of_mem _ hx)) with e | e
      · subst e; exact (has _ _ (hm.1 _ hx) (hm.1 _ hx)).elim
      · exact e
theorem Srt.uniq {c : Int → Int} {n : Int} {l m : List Int} (h : Srt c n l) (k : Srt c n m) : l = m :=
  pairwise_ext (fun a b h1 h2 => by unfold Bf at *; omega) h.pw k.pw fun x => (h.mem x).trans (k.mem x).symm
theorem cmpI_ok {x y : Int} {Q : Int → Prop} (h : ∀ r, (r < 0 ↔ x < y) → I64 r → Q r) : V_cmpI x y Q := by
  refine ⟨fun hf => by simp at hf, fun _ => ⟨fun hf => by simp at hf, fun _ => ⟨fun hlt => h _ (by omega) (by unfold I64; omega), fun hge => ⟨fun hgt => h _ (by omega) (by unfold I64; omega), fun he => h _ (by omega) (by unfold I64; omega)⟩⟩⟩⟩
theorem Sift1_ok {i k : Int} {c : List Int} (hi : In i c) (hk : In k c) : ∃ r, V_Sift1 i k c (fun y => y = r) ∧ I64 r ∧ (r < 0 ↔ ix c k < ix c i) := by
  by_cases h1 : ix c k < ix c i
  · exact ⟨-1, ⟨hk, fun _ => ⟨hi, fun _ => ⟨fun hf => by simp at hf, fun _ => ⟨fun hf => by simp at hf, fun _ => ⟨fun _ => rfl, fun h => absurd h1 h⟩⟩⟩⟩⟩, by unfold I64; omega, by omega⟩
  · by_cases h2 : ix c i < ix c k
    · exact ⟨1, ⟨hk, fun _ => ⟨hi, fun _ => ⟨fun hf => by simp at hf, fun _ => ⟨fun hf => by simp at hf, fun _ => ⟨fun h => absurd h h1, fun _ => ⟨fun _ => rfl, fun h => absurd h2 h⟩⟩⟩⟩⟩⟩, by unfold I64; omega, by omega⟩
    · exact ⟨0, ⟨hk, fun _ => ⟨hi, fun _ => ⟨fun hf => by simp at hf, fun _ => ⟨fun hf => by simp at hf, fun _ => ⟨fun h => absurd h h1, fun _ => ⟨fun h => absurd h h2, fun _ => rfl⟩⟩⟩⟩⟩⟩, by unfold I64; omega, by omega⟩
theorem ix_mid {A B : List Int} {a : Int} {j : Int} (hj : j = A.length) : ix (A ++ a :: B) j = a := by
  subst hj; unfold ix; rw [List.getD_eq_getElem?_getD, Int.toNat_natCast, List.getElem?_append_right (Nat.le_refl _), Nat.sub_self]; rfl
theorem set_mid {A B : List Int} {a b : Int} {j : Int} (hj : j = A.length) : (A ++ a :: B).set j.toNat b = A ++ b :: B := by
  subst hj; rw [Int.toNat_natCast, List.set_append_right _ _ (Nat.le_refl _), Nat.sub_self]; rfl
theorem insSF_ok {c : List Int} {n : Int} (hn : 0 ≤ n) (h9 : n ≤ 9) (hc : (c.length : Int) = n) {Q : List Int → Prop} (k : ∀ vs, Srt (ix c) n vs → (vs.length : Int) = n → Q vs) : V_insSF (rg 0 n) 0 n c Q := by
  refine ⟨by unfold I64; omega, ?_⟩
  by_cases hz : n = 0
  · subst hz
    refine ⟨fun s => s = (rg 0 0, 0 + 1), fun _ => 0, rfl, fun s hs => ?_⟩
    subst hs
    exact ⟨fun h => by omega, fun _ => k _ ⟨by simp [rg], fun x => mem_rg⟩ (by simp [rg])⟩
  refine ⟨fun s => 1 ≤ s.2 ∧ s.2 ≤ n ∧ ∃ P, s.1 = P ++ rg s.2 n ∧ (P.length : Int) = s.2 ∧ Srt (ix c) s.2 P, fun s => (n - s.2).toNat, ⟨by dsimp only; omega, by dsimp only; omega, [0], ?_, rfl, ⟨by simp, fun x => by simp; omega⟩⟩, ?_⟩
  · dsimp only; rw [rg_cons (by omega)]; rfl
  rintro ⟨data, i⟩ ⟨i1, i2, P, hdat, hP, hS⟩
  dsimp only at i1 i2 hP hS hdat
  subst hdat
  refine ⟨fun hlt => ?_, fun hge => ?_⟩
  · dsimp only
    refine ⟨fun s => 0 ≤ s.2 ∧ s.2 ≤ i ∧ ∃ A B, s.1 = A ++ i :: (B ++ rg (i + 1) n) ∧ (A.length : Int) = s.2 ∧ ((A ++ B).length : Int) = i ∧ (A ++ B).Pairwise (Bf (ix c)) ∧ (∀ x, x ∈ A ++ B ↔ 0 ≤ x ∧ x < i) ∧ ∀ b ∈ B, Bf (ix c) i b, fun s => s.2.toNat, ⟨by dsimp only; omega, by dsimp only; omega, P, [], ?_, hP, by simpa using hP, by simpa using hS.pw, by simpa using hS.mem, fun _ h => by cases h⟩, ?_⟩
    · dsimp only; rw [rg_cons (by omega)]; rfl
    rintro ⟨d, j⟩ ⟨j0, ji, A, B, hdd, hA, hAB, hpw, hmem, hB⟩
    dsimp only at j0 ji hA hdd
    subst hdd
    dsimp only
    have hdl : ((A ++ i :: (B ++ rg (i + 1) n)).length : Int) = n := by
      rw [List.length_append] at hAB
      rw [List.length_append, List.length_cons, List.length_append, rg_length]; omega
    have fin : (0 < j → ¬ ix c (ix (A ++ i :: (B ++ rg (i + 1) n)) (j - 1)) < ix c i) → (1 ≤ i + 1 ∧ i + 1 ≤ n ∧ ∃ P, A ++ i :: (B ++ rg (i + 1) n) = P ++ rg (i + 1) n ∧ (P.length : Int) = i + 1 ∧ Srt (ix c) (i + 1) P) := fun hstop => by
      refine ⟨by omega, by omega, A ++ i :: B, by simp, by rw [List.length_append, List.length_cons]; rw [List.length_append] at hAB; omega, ?_, fun x => ?_⟩
      · rw [List.pairwise_append] at hpw ⊢
        refine ⟨hpw.1, List.pairwise_cons.2 ⟨hB, hpw.2.1⟩, fun a ha b hb => ?_⟩
        rcases List.mem_cons.1 hb with rfl | hb
        · -- all ahead of it stay ahead
          have hne : A ≠ [] := fun e => by rw [e] at ha; cases ha
          have hjp : 0 < j := by rw [← hA]; have := List.length_pos_iff.2 hne; omega
          have hlast := List.dropLast_concat_getLast hne
          generalize hz : A.getLast hne = z at hlast
          have hs := hstop hjp
          rw [← hlast, List.append_assoc, List.singleton_append, ix_mid (by rw [List.length_dropLast]; omega)] at hs
          have hzi : z < b := ((hmem z).1 (List.mem_append_left _ (by rw [← hlast]; simp))).2
          have hzb : Bf (ix c) z b := by unfold Bf; omega
          rw [← hlast] at ha
          rcases List.mem_append.1 ha with ha | ha
          · have h1 := hpw.1
            rw [← hlast, List.pairwise_append] at h1
            exact (h1.2.2 a ha z (by simp)).trans hzb
          · simp at ha; subst ha; exact hzb
        · exact hpw.2.2 a ha b hb
      · rw [List.mem_append, List.mem_cons]
        have := hmem x
        rw [List.mem_append] at this
        constructor
        · rintro (h | rfl | h)
          · have := this.1 (.inl h); omega
          · omega
          · have := this.1 (.inr h); omega
        · intro h
          by_cases e : x = i
          · exact .inr (.inl e)
          · rcases this.2 (by omega) with h | h
            · exact .inl h
            · exact .inr (.inr h)
    refine ⟨fun b => b = decide (0 < j ∧ ix c (ix (A ++ i :: (B ++ rg (i + 1) n)) (j - 1)) < ix c i), fun b hb => ⟨fun ht => ?_, fun ht => ?_⟩, fun hjp => ?_, fun hjn => by simp [hjn]⟩
    · rw [hb] at ht
      obtain ⟨hjp, hcmp⟩ := of_decide_eq_true ht
      have hne : A ≠ [] := fun e => by rw [e] at hA; simp at hA; omega
      have hlast := List.dropLast_concat_getLast hne
      generalize hz : A.getLast hne = z at hlast
      have hAl : (A.dropLast.length : Int) = j - 1 := by rw [List.length_dropLast]; omega
      rw [← hlast, List.append_assoc, List.singleton_append] at hcmp hdl ⊢
      rw [ix_mid hAl.symm] at hcmp ⊢
      have hixj : ix (A.dropLast ++ z :: i :: (B ++ rg (i + 1) n)) j = i := by
        have : A.dropLast ++ z :: i :: (B ++ rg (i + 1) n) = (A.dropLast ++ [z]) ++ i :: (B ++ rg (i + 1) n) := by simp
        rw [this]; exact ix_mid (by rw [hlast]; omega)
      have hset : (A.dropLast ++ z :: i :: (B ++ rg (i + 1) n)).set j.toNat z = A.dropLast ++ z :: z :: (B ++ rg (i + 1) n) := by
        have e1 : A.dropLast ++ z :: i :: (B ++ rg (i + 1) n) = (A.dropLast ++ [z]) ++ i :: (B ++ rg (i + 1) n) := by simp
        rw [e1, set_mid (by rw [hlast]; omega)]; simp
      rw [hixj, hset]
      refine ⟨by unfold I64; omega, by unfold I64; omega, ⟨by omega, by omega⟩, fun _ => ⟨⟨by omega, by omega⟩, fun _ => ⟨⟨by omega, by omega⟩, ⟨by omega, ?_⟩, by unfold I64; omega, ⟨by omega, by omega, A.dropLast, z :: B, ?_, hAl, ?_, ?_, ?_, ?_⟩, by omega⟩⟩⟩
      · simp at hdl ⊢; omega
      · rw [set_mid hAl.symm]; simp
      · have : A.dropLast ++ z :: B = A ++ B := by rw [← hlast]; simp
        rw [this]; exact hAB
      · have : A.dropLast ++ z :: B = A ++ B := by rw [← hlast]; simp
        rw [this]; exact hpw
      · have : A.dropLast ++ z :: B = A ++ B := by rw [← hlast]; simp
        rw [this]; exact hmem
      · intro b hb
        rcases List.mem_cons.1 hb with rfl | hb
        · exact .inl hcmp
        · exact hB b hb
    · rw [hb] at ht
      have hstop := of_decide_eq_false ht
      refine ⟨by unfold I64; omega, fin fun hjp h => hstop ⟨hjp, h⟩, by omega⟩
    · have hixj : ix (A ++ i :: (B ++ rg (i + 1) n)) j = i := ix_mid (by omega)
      rw [hixj]
      have hne : A ≠ [] := fun e => by rw [e] at hA; simp at hA; omega
      have hzm : ix (A ++ i :: (B ++ rg (i + 1) n)) (j - 1) ∈ A := by
        have hlast := List.dropLast_concat_getLast hne
        have : A ++ i :: (B ++ rg (i + 1) n) = A.dropLast ++ A.getLast hne :: i :: (B ++ rg (i + 1) n) := by
          conv => lhs; rw [← hlast]
          simp
        rw [this, ix_mid (by rw [List.length_dropLast]; omega)]
        exact List.getLast_mem hne
      have hzr := (hmem _).1 (List.mem_append_left _ hzm)
      obtain ⟨r, hr, hI, hiff⟩ := Sift1_ok (i := i) (k := ix (A ++ i :: (B ++ rg (i + 1) n)) (j - 1)) (c := c) ⟨by omega, by omega⟩ ⟨hzr.1, by omega⟩
      refine ⟨⟨by omega, by omega⟩, fun _ => ⟨by unfold I64; omega, ⟨by omega, by omega⟩, fun _ => ⟨r, hr, hI, ?_⟩⟩⟩
      show decide (r < 0) = decide _
      rw [decide_eq_decide, hiff]
      exact ⟨fun h => ⟨hjp, h⟩, fun h => h.2⟩
  · have : i = n := by
      have : ¬ i < n := hge
      omega
    subst this
    show Q (P ++ rg i i)
    rw [rg_nil (Int.le_refl _), List.append_nil]
    exact k P hS hP
theorem SortSF_ok {c : List Int} {n : Int} (hn : 0 ≤ n) (h9 : n ≤ 9) (hc : (c.length : Int) = n) {Q : List Int → Prop} (k : ∀ vs, Srt (ix c) n vs → (vs.length : Int) = n → Q vs) : V_SortSF (rg 0 n) c Q := by
  have hl : ((rg 0 n).length : Int) = n := by rw [rg_length]; omega
  intro _
  rw [hl]
  refine ⟨fun s => s = (rg 0 n, 0, 20), fun _ => 0, rfl, fun s hs => ?_⟩
  subst hs
  refine ⟨fun h => by omega, fun _ => insSF_ok hn h9 hc fun vs h1 h2 => ⟨fun s => s = (vs, 20), fun _ => 0, rfl, fun s hs => ?_⟩⟩
  subst hs
  exact ⟨fun h => by omega, fun _ => k vs h1 h2⟩
end Go.Vc
