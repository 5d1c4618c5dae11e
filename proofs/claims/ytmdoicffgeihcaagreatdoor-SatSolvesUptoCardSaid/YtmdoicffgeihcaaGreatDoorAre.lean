/- Raw slices of ints: several slices that look into the blocks of one arena. Floats of which nothing is asked. -/
import Derived.Test.YtmdoicffgeihcaaGreatDoorMore
import Derived.Laws.FloatArith
set_option linter.unusedVariables false
set_option linter.unusedSimpArgs false
namespace Go.Vc
open Go
structure Raw where
  ad : Option (Nat × Nat)
  n : Nat
  cap : Nat
instance : Inhabited Raw := ⟨⟨none, 0, 0⟩⟩
abbrev rnil : Raw := ⟨none, 0, 0⟩
def rawV (r : Raw) : Value := .slice (r.ad.map fun p => ⟨p.1, p.2, none⟩) r.n r.cap
def rawP (r : Raw) (i : Int) : Value := .pointer (r.ad.map fun p => ⟨p.1, p.2 + i.toNat, none⟩)
def rhi (r : Raw) (k : Int) : Raw := ⟨r.ad, k.toNat, r.cap⟩
def rlo (r : Raw) (k : Int) : Raw := ⟨if r.cap = k.toNat then r.ad else r.ad.map fun p => (p.1, p.2 + k.toNat), r.n - k.toNat, r.cap - k.toNat⟩
/-- Blocks: what is known of each from its head on, and how much it may hold. -/
abbrev Arena := List (Nat × List Int × Nat)
def aget (A : Arena) (b : Nat) : Option (List Int × Nat) := (A.find? fun e => e.1 == b).map (·.2)
def aput (A : Arena) (b : Nat) (zs : List Int) : Arena := A.map fun e => if e.1 = b then (b, zs, e.2.2) else e
/-- What lies in a block, from its head on. -/
def acont (A : Arena) (b : Nat) : List Int := ((aget A b).map (·.1)).getD []
def ag (A : Arena) (r : Raw) (i : Int) : Int := match r.ad with
  | some p => (acont A p.1).getD (p.2 + i.toNat) 0
  | none => 0
def aset (A : Arena) (r : Raw) (i z : Int) : Arena := match r.ad with
  | some p => aput A p.1 ((acont A p.1).set (p.2 + i.toNat) z)
  | none => A
def aread (A : Arena) (r : Raw) : List Int := match r.ad with
  | some p => ((acont A p.1).drop p.2).take r.n
  | none => []
/-- An element that can be read, written. -/
def RdOk (A : Arena) (r : Raw) (i : Int) : Prop := ∃ b off, r.ad = some (b, off) ∧ (aget A b).isSome = true ∧ off + i.toNat < (acont A b).length
/-- A slice that can be read as a whole. -/
def SrcOk (A : Arena) (r : Raw) : Prop := r.n = 0 ∨ ∃ b off, r.ad = some (b, off) ∧ (aget A b).isSome = true ∧ off + r.n ≤ (acont A b).length
/-- An index within a raw slice. -/
def InR (r : Raw) (i : Int) : Prop := r.ad ≠ none ∧ 0 ≤ i ∧ i < r.n
/-- A slice that can be appended to. -/
def ApOk (A : Arena) (r : Raw) : Prop := r = rnil ∨ ∃ b zs, r.ad = some (b, 0) ∧ aget A b = some (zs, r.cap) ∧ r.n ≤ zs.length
/-- What an append makes. -/
def ApR (A : Arena) (r : Raw) (ys : List Int) (A' : Arena) (r' : Raw) : Prop :=
  (ys = [] ∧ A' = A ∧ r' = r) ∨
  (∃ b zs, r.ad = some (b, 0) ∧ aget A b = some (zs, r.cap) ∧ r.n + ys.length ≤ r.cap ∧ A' = aput A b (zs.take r.n ++ (ys ++ zs.drop (r.n + ys.length))) ∧ r' = ⟨r.ad, r.n + ys.length, r.cap⟩) ∨
  (∃ b cap, aget A b = none ∧ r.n + ys.length ≤ cap ∧ A' = (b, aread A r ++ ys, cap) :: A ∧ r' = ⟨some (b, 0), r.n + ys.length, cap⟩)
/-- What comes of an owned slice that goes into the arena. -/
def AbR (A : Arena) (xs : List Int) (A' : Arena) (r : Raw) : Prop :=
  (xs = [] ∧ A' = A ∧ r = rnil) ∨ ∃ b cap, aget A b = none ∧ xs.length ≤ cap ∧ A' = (b, xs, cap) :: A ∧ r = ⟨some (b, 0), xs.length, cap⟩
/-- A block as it lies. -/
def IsBlk (T : TypeId) (e : Nat × List Int × Nat) (o : Obj) : Prop :=
  ∃ arr rest, o = .cells arr T (0, 0) ∧ arr.toList = e.2.1.map (Value.int .i64) ++ rest ∧ arr.size = e.2.2 ∧ (∀ x ∈ e.2.1, I64 x) ∧ e.2.2 ≤ maxLen
def IsAr (T : TypeId) : Arena → Seg → Prop
  | [], fp => fp = []
  | e :: A, fp => ∃ o g, fp = (e.1, o) :: g ∧ IsBlk T e o ∧ IsAr T A g
def cRaw : Codec Raw where
  size := 1
  rep := fun _ cs x => cs = [rawV x]
  len := fun h => by rw [h]; rfl
  mono := fun _ h => h
  one := fun h u hu => by rw [h] at hu; rw [List.mem_singleton.1 hu]; rfl
theorem cRaw_rep {H : View} {u : Value} {x : Raw} (h : cRaw.rep H [u] x) : u = rawV x := by cases h; rfl
theorem cRaw_mk {H : View} {x : Raw} : cRaw.rep H [rawV x] x := rfl

section ar
variable {T : TypeId} {A : Arena} {fp : Seg} {b : Nat} {zs : List Int} {cap : Nat}
theorem aget_cons (e : Nat × List Int × Nat) (A : Arena) (b : Nat) : aget (e :: A) b = if e.1 = b then some e.2 else aget A b := by
  unfold aget
  by_cases h : e.1 = b
  · simp [h]
  · rw [List.find?_cons_of_neg (by simpa using h), if_neg h]
theorem aget_aput (A : Arena) (b c : Nat) (zs : List Int) : aget (aput A b zs) c = if c = b then (aget A b).map (fun p => (zs, p.2)) else aget A c := by
  induction A with
  | nil => simp [aput, aget]
  | cons e A ih =>
    show aget ((if e.1 = b then (b, zs, e.2.2) else e) :: aput A b zs) c = _
    rw [aget_cons, ih, aget_cons, aget_cons]
    by_cases h1 : e.1 = b
    · subst h1
      by_cases h2 : c = e.1
      · subst h2; simp
      · have : ¬ e.1 = c := fun h => h2 h.symm
        simp [h2, this]
    · by_cases h2 : c = b
      · subst h2; simp [h1]
      · simp [h1, h2]
theorem IsAr.keys (h : IsAr T A fp) : fp.map (·.1) = A.map (·.1) := by
  induction A generalizing fp with
  | nil => cases h; rfl
  | cons e A ih => obtain ⟨o, g, rfl, _, h2⟩ := h; simp [ih h2]
theorem aput_none {A : Arena} {b : Nat} {zs : List Int} (h : b ∉ A.map (·.1)) : aput A b zs = A := by
  induction A with
  | nil => rfl
  | cons e A ih =>
    simp only [List.map_cons, List.mem_cons, not_or] at h
    show (if e.1 = b then (b, zs, e.2.2) else e) :: aput A b zs = _
    rw [if_neg (fun hh => h.1 hh.symm), ih h.2]
theorem aget_mem {A : Arena} {b : Nat} {p : List Int × Nat} (h : aget A b = some p) : b ∈ A.map (·.1) := by
  induction A with
  | nil => cases h
  | cons e A ih =>
    rw [aget_cons] at h
    by_cases hb : e.1 = b
    · simp [hb]
    · rw [if_neg hb] at h; exact List.mem_cons_of_mem _ (ih h)
theorem IsAr.split (h : IsAr T A fp) (hg : aget A b = some (zs, cap)) (hn : (fp.map (·.1)).Nodup) :
    ∃ f1 o f2, fp = f1 ++ ((b, o) :: f2) ∧ IsBlk T (b, zs, cap) o ∧ ∀ zs' o', IsBlk T (b, zs', cap) o' → IsAr T (aput A b zs') (f1 ++ ((b, o') :: f2)) := by
  induction A generalizing fp with
  | nil => cases hg
  | cons e A ih =>
    obtain ⟨o, g, rfl, h1, h2⟩ := h
    rw [aget_cons] at hg
    rw [List.map_cons, List.nodup_cons] at hn
    by_cases hb : e.1 = b
    · rw [if_pos hb] at hg
      obtain ⟨b', ys, c'⟩ := e
      simp only at hb; subst hb
      cases hg
      refine ⟨[], o, g, rfl, h1, fun zs' o' ho => ?_⟩
      show IsAr T ((if b' = b' then (b', zs', cap) else _) :: aput A b' zs') _
      rw [if_pos rfl]
      have hk : b' ∉ A.map (·.1) := by rw [← h2.keys]; exact hn.1
      exact ⟨o', g, rfl, ho, by rw [aput_none hk]; exact h2⟩
    · rw [if_neg hb] at hg
      obtain ⟨f1, o1, f2, rfl, h3, h4⟩ := ih h2 hg hn.2
      refine ⟨(e.1, o) :: f1, o1, f2, rfl, h3, fun zs' o' ho => ?_⟩
      show IsAr T ((if e.1 = b then (b, zs', e.2.2) else e) :: aput A b zs') _
      rw [if_neg hb]
      exact ⟨o, _, rfl, h1, h4 zs' o' ho⟩
theorem acont_of (h : aget A b = some (zs, cap)) : acont A b = zs := by simp [acont, h]
theorem IsAr.i64 (h : IsAr T A fp) : ∀ x ∈ acont A b, I64 x := by
  induction A generalizing fp with
  | nil => intro x hx; simp [acont, aget] at hx
  | cons e A ih =>
    obtain ⟨o, g, rfl, h1, h2⟩ := h
    intro x hx
    unfold acont at hx
    rw [aget_cons] at hx
    by_cases hb : e.1 = b
    · rw [if_pos hb] at hx; obtain ⟨_, _, _, _, _, h5, _⟩ := h1; exact h5 x (by simpa using hx)
    · rw [if_neg hb] at hx; exact ih h2 x hx
theorem IsAr.ag64 (h : IsAr T A fp) (r : Raw) (i : Int) : I64 (ag A r i) := by
  unfold ag
  split
  · rename_i p _
    rw [List.getD_eq_getElem?_getD]
    cases hx : (acont A p.1)[p.2 + i.toNat]? with
    | none => exact ⟨by decide, by decide⟩
    | some x => exact h.i64 x (List.mem_of_getElem? hx)
  · exact ⟨by decide, by decide⟩
theorem aread_i64 (h : IsAr T A fp) (r : Raw) : ∀ x ∈ aread A r, I64 x := by
  unfold aread
  split
  · intro x hx; exact h.i64 x (List.mem_of_mem_drop (List.mem_of_mem_take hx))
  · intro x hx; cases hx
end ar
theorem ar_ints {H : View} : ∀ {xs : List Int} {cs : List Value}, (∀ x ∈ xs, I64 x) → cs = xs.map (Value.int .i64) → (cInt .i64).reps H cs xs
  | [], _, _, h => h
  | x :: xs, _, hi, h => ⟨[.int .i64 x], xs.map (Value.int .i64), h, ⟨rfl, (hi x (by simp)).has⟩, ar_ints (fun y hy => hi y (List.mem_cons_of_mem _ hy)) rfl⟩
theorem ints_ar {H : View} : ∀ {xs : List Int} {cs : List Value}, (cInt .i64).reps H cs xs → cs = xs.map (Value.int .i64) ∧ ∀ x ∈ xs, I64 x
  | [], _, h => ⟨h, fun x hx => by cases hx⟩
  | x :: xs, _, ⟨a, b, e, h1, h2⟩ => by
    obtain ⟨e2, h3⟩ := ints_ar h2
    refine ⟨by rw [e, h1.1, e2]; rfl, fun y hy => ?_⟩
    rcases List.mem_cons.1 hy with rfl | hy
    · exact has_I64 h1.2
    · exact h3 y hy

section ex
variable {P : Program} {n : Nat} {l : List (Nat × Value)} {C : World → Prop} {dst : Option Tmp} {ty : TypeId} {pos : String} {af : Array Edge} {gd : Option (Nat × Bool)} {r : Raw} {T : TypeId} {A : Arena} {fp L : Seg} {w0 : World} {H : View} {t e : TypeId} {x y : Operand} {k : IntKind} {i : Int}
theorem ex_r_len (ht : P.underlying t = some (.slice e)) (hx : opv l x = some (rawV r)) : Exv P n l C ⟨dst, .call { callee := .builtin .len, args := #[x], argTypes := #[t] }, ty, pos, af, gd⟩ (.int .i64 r.n) := ex_len ht hx
theorem ex_r_index (ht : P.underlying t = some (.slice e)) (hsz : ∀ w, (sizeOf e).run P w = .ok 1 w) (hx : opv l x = some (rawV r)) (hy : opv l y = some (.int k i)) (h : InR r i) :
    Exv P n l C ⟨dst, .indexAddr t x y, ty, pos, af, gd⟩ (rawP r i) := fun w _ a ha => by
  obtain ⟨ad, m, cap⟩ := r
  obtain ⟨h1, h2, h3⟩ := h
  cases ad with
  | none => exact absurd rfl h1
  | some p =>
    have h4 : i < (m : Int) := h3
    simp [execOp, Instr.indexAt, ha.eval hx, ha.eval hy, rawV, rawP, asIntOf, run_underlying ht, h2, h4, hsz, Addr.add_lit]
theorem ar_cell {w : World} (hA : IsAr T A fp) (hw : St w0 H (fp ++ L) w) {b : Nat} {j : Nat} (hb : (aget A b).isSome = true) (hj : j < (acont A b).length) : w.cell? ⟨b, j, none⟩ = some (.int .i64 ((acont A b).getD j 0)) := by
  obtain ⟨⟨zs, cap⟩, hg⟩ := Option.isSome_iff_exists.1 hb
  have hn : (fp.map (·.1)).Nodup := by have := hw.nodup; rw [List.map_append, List.nodup_append] at this; exact this.1
  obtain ⟨f1, o, f2, rfl, ⟨arr, rest, rfl, h1, h2, h3, h4⟩, _⟩ := hA.split hg hn
  rw [acont_of hg] at hj ⊢
  have hc := hw.own (b, .cells arr T (0, 0)) (by simp)
  simp only [World.cell?, hc]
  simp only [Option.isSome_none, Bool.false_eq_true, if_false]
  rw [← Array.getElem?_toList, h1, List.getElem?_append_left (by simpa using hj), List.getElem?_map, List.getElem?_eq_getElem hj, List.getD_eq_getElem?_getD, List.getElem?_eq_getElem hj]
  rfl
theorem ex_r_load (hag : ∀ w, (isAgg t).run P w = .ok false w) (hx : opv l x = some (rawP r i)) (hA : IsAr T A fp) (h : RdOk A r i) :
    Exv P n l (St w0 H (fp ++ L)) ⟨dst, .load t x, ty, pos, af, gd⟩ (.int .i64 (ag A r i)) := fun w hw a ha => by
  obtain ⟨ad, m, cap⟩ := r
  obtain ⟨b, off, hr, hb, hj⟩ := h
  simp only at hr; subst hr
  have := ar_cell hA hw hb hj
  simp [execOp, Instr.loadAt, Instr.sureAddr, ha.eval hx, rawP, ag, run_load_cell hag this]
theorem ex_r_hi (ht : P.underlying t = some (.slice e)) (hsz : ∀ w, (sizeOf e).run P w = .ok 1 w) (hx : opv l x = some (rawV r)) (hy : opv l y = some (.int k i)) (h : 0 ≤ i ∧ i ≤ (r.cap : Int)) :
    Exv P n l C ⟨dst, .slice t x none (some y) none, ty, pos, af, gd⟩ (rawV (rhi r i)) := fun w _ a ha => by
  obtain ⟨ad, m, cap⟩ := r
  have hb := fun w => run_bound (P := P) (k := k) (y := cap) (code := .sliceAcap) (w := w) h.1 h.2
  cases ad <;> simp [execOp, Instr.sliceAt, Instr.slice, ha.eval hx, ha.eval hy, rawV, rhi, run_underlying ht, Instr.sliceBounds, hb, hsz, Addr.add_lit]
theorem ex_r_lo (ht : P.underlying t = some (.slice e)) (hsz : ∀ w, (sizeOf e).run P w = .ok 1 w) (hx : opv l x = some (rawV r)) (hy : opv l y = some (.int k i)) (h : 0 ≤ i ∧ i ≤ (r.n : Int)) :
    Exv P n l C ⟨dst, .slice t x (some y) none none, ty, pos, af, gd⟩ (rawV (rlo r i)) := fun w _ a ha => by
  obtain ⟨ad, m, cap⟩ := r
  have hb := fun w => run_bound (P := P) (k := k) (y := m) (code := .sliceB) (w := w) h.1 h.2
  by_cases hc : cap = i.toNat <;> cases ad <;> simp [execOp, Instr.sliceAt, Instr.slice, ha.eval hx, ha.eval hy, rawV, rlo, run_underlying ht, Instr.sliceBounds, hb, hsz, Addr.add_lit, hc]
theorem raw_src {w : World} (hA : IsAr T A fp) (hw : St w0 H (fp ++ L) w) (h : SrcOk A r) : Src (cInt .i64) H P w (rawV r) (aread A r) := by
  obtain ⟨ad, m, cap⟩ := r
  rcases h with h | ⟨b, off, hr, hb, hj⟩
  · simp only at h; subst h
    refine .inl ⟨?_, _, _, rfl⟩
    cases ad <;> simp [aread]
  · simp only at hr hj; subst hr
    by_cases h0 : m = 0
    · subst h0; exact .inl ⟨by simp [aread], _, _, rfl⟩
    · have hl : (aread A ⟨some (b, off), m, cap⟩).length = m := by simp [aread]; omega
      refine .inr ⟨⟨b, off, none⟩, m, cap, (aread A ⟨some (b, off), m, cap⟩).map (Value.int .i64), by rw [hl]; rfl, hl.symm, by omega, ar_ints (aread_i64 hA _) rfl, fun j v hv => ?_⟩
      have hjl : j < m := by have := (List.getElem?_eq_some_iff.1 hv).1; rw [List.length_map, hl] at this; exact this
      rw [Addr.add_lit, ar_cell hA hw hb (by omega)]
      rw [← hv, List.getElem?_map]
      simp only [aread]
      rw [List.getElem?_take_of_lt hjl, List.getElem?_drop, List.getD_eq_getElem?_getD, List.getElem?_eq_getElem (by omega)]
      rfl
end ex

section rules
variable {P : Program} {ops : Array Oper} {Q : Exit → Act → World → Prop} {n : Nat} {l : List (Nat × Value)} {rest : List Oper} {w0 w : World} {H : View} {L fp : Seg} {ty : TypeId} {pos : String} {af : Array Edge} {A : Arena} {r : Raw} {i z : Int} {t e T : TypeId} {x y : Operand}
/-- A block of the arena comes to the front. -/
theorem St.focus {b : Nat} {o : Obj} {f1 f2 : Seg} (h : St w0 H ((f1 ++ ((b, o) :: f2)) ++ L) w) : St w0 H ([(b, o)] ++ ((f1 ++ f2) ++ L)) w := h.perm (by
  rw [List.append_assoc, List.cons_append]
  simp)
theorem St.unfocus {b : Nat} {o : Obj} {f1 f2 : Seg} (h : St w0 H ([(b, o)] ++ ((f1 ++ f2) ++ L)) w) : St w0 H ((f1 ++ ((b, o) :: f2)) ++ L) w := h.perm (by
  rw [List.append_assoc, List.cons_append]
  simpa using (List.perm_middle (a := (b, o)) (l₁ := f1) (l₂ := f2 ++ L)).symm)
theorem St.nodupL (h : St w0 H (fp ++ L) w) : (fp.map (·.1)).Nodup := by have := h.nodup; rw [List.map_append, List.nodup_append] at this; exact this.1
theorem WL.r_store (hsz : ∀ w, (sizeOf t).run P w = .ok 1 w) (hx : opv l x = some (rawP r i)) (hy : opv l y = some (.int .i64 z)) (hz : I64 z) (hw : St w0 H (fp ++ L) w) (hA : IsAr T A fp) (h : RdOk A r i)
    (k : ∀ w' fp', IsAr T (aset A r i z) fp' → St w0 H (fp' ++ L) w' → WL P ops Q n l rest w') : WL P ops Q n l (⟨none, .store t x y, ty, pos, af, none⟩ :: rest) w := by
  obtain ⟨ad, m, cap⟩ := r
  obtain ⟨b, off, hr, hb, hj⟩ := h
  simp only at hr; subst hr
  have hcell := ar_cell hA hw hb hj
  obtain ⟨⟨zs, cp⟩, hg⟩ := Option.isSome_iff_exists.1 hb
  obtain ⟨f1, o, f2, rfl, ⟨arr, rst, rfl, h1, h2, h3, h4⟩, hput⟩ := hA.split hg hw.nodupL
  have hc := hw.own (b, .cells arr T (0, 0)) (by simp)
  have hz0 := acont_of hg
  rw [hz0] at hj
  have hlt : off + i.toNat < arr.size := by rw [← Array.length_toList, h1]; simp; omega
  have hfr : w.frozen? ⟨b, off + i.toNat, none⟩ = false := by simp [World.frozen?, hc]
  have hone : (Value.int .i64 z).oneCell' = true := rfl
  have hblk : IsBlk T (b, zs.set (off + i.toNat) z, cp) (.cells (arr.setIfInBounds (off + i.toNat) (.int .i64 z)) T (0, 0)) :=
    ⟨_, rst, rfl, by rw [Array.toList_setIfInBounds, h1, List.set_append_left _ _ (by simpa using hj), List.map_set], by simpa using h2, fun v hv => by
      rcases List.mem_or_eq_of_mem_set hv with hv | rfl
      · exact h3 v hv
      · exact hz, h4⟩
  have hA' : IsAr T (aset A ⟨some (b, off), m, cap⟩ i z) (f1 ++ ((b, .cells (arr.setIfInBounds (off + i.toNat) (.int .i64 z)) T (0, 0)) :: f2)) := by
    show IsAr T (aput A b ((acont A b).set (off + i.toNat) z)) _
    rw [hz0]; exact hput _ _ hblk
  refine WL.turn0 (w' := w.setCell ⟨b, off + i.toNat, none⟩ (.int .i64 z)) rfl rfl (fun a ha => ?_) (k _ _ hA' (St.unfocus (St.write hw.focus rfl rfl rfl (by simp) ?_ (fun q hq => RowKit.Below.heap_setCell w _ _ q hq))))
  · have hst : (storeCells ⟨b, off + i.toNat, none⟩ [.int .i64 z]).run P w = .ok () (w.setCell ⟨b, off + i.toNat, none⟩ (.int .i64 z)) := by
      simp [storeCells, Addr.add_lit, run_store P w _ (.int .i64 z) .plain hone, hcell, hfr]
    have hcs : (Value.int .i64 z).cells = #[.int .i64 z] := rfl
    simp [execOp, Instr.storeAt, Instr.sureAddr, storeVar, ha.eval hx, ha.eval hy, rawP, hcs, hsz, hst]
  · simp only [World.setCell, Array.getElem?_modify, if_true, hc, Option.map_some]
    simp
theorem run_append_raw {i : TypeInfo} (ht : P.underlying t = some (.slice e)) (hi : P.info? e = some i) (hz : i.zero = some (.int .i64 0)) (hsz : i.size = 1) {u : Value} {ys : List Int} (hw : St w0 H (fp ++ L) w) (hA : IsAr e A fp)
    (hsrc : Src (cInt .i64) H P w u ys) (h : ApOk A r) (hroom : (r.n + ys.length) * i.bytes ≤ 140737488355328) (hmax : r.n + ys.length ≤ maxLen) :
    ∃ A' r' w' fp', (Builtin.append_ #[t, t] ty #[rawV r, u]).run P w = .ok (rawV r') w' ∧ ApR A r ys A' r' ∧ IsAr e A' fp' ∧ St w0 H (fp' ++ L) w' := by
  obtain ⟨ad, m, cap⟩ := r
  have hnew : aget A w.heap.size = none := by
    cases hg : aget A w.heap.size with
    | none => rfl
    | some p =>
      have := aget_mem hg
      rw [← hA.keys] at this
      obtain ⟨q, hq, he⟩ := List.mem_map.1 this
      have := (Array.getElem?_eq_some_iff.1 (hw.own q (List.mem_append_left _ hq))).1
      omega
  rcases hsrc with ⟨rfl, ad', cap', rfl⟩ | ⟨a, mm, capx, ns, rfl, _, hpos, hns, hcell⟩
  · refine ⟨A, _, w, fp, ?_, .inl ⟨rfl, rfl, rfl⟩, hA, hw⟩
    rcases h with h | ⟨b, zs, h1, h2, h3⟩
    · cases h; cases ad' <;> simp [rawV, Builtin.append_, run_underlying ht, sizeOf, typeInfo, hi, Builtin.lenOf, Builtin.firstCells, loadCells, loadCellsFrom]
    · simp only at h1 h2 h3; subst h1
      obtain ⟨f1, o, f2, rfl, ⟨arr, rst, rfl, g1, g2, g3, g4⟩, hput⟩ := hA.split h2 hw.nodupL
      have : m ≤ cap := by
        have := congrArg List.length g1
        simp only [Array.length_toList, List.length_append, List.length_map] at this
        simp only at g2; omega
      cases ad' <;> simp [rawV, Builtin.append_, run_underlying ht, sizeOf, typeInfo, hi, Builtin.lenOf, Builtin.firstCells, loadCells, loadCellsFrom, this, storeCells]
  · have hnl := Codec.reps_length hns
    obtain ⟨rfl, hy64⟩ := ints_ar hns
    have hnl1 : (ys.map (Value.int .i64)).length = ys.length * i.size := by rw [hsz]; simp
    have h63 : ((m + ys.length : Nat) : Int) ≤ 9223372036854775807 := by simp only at hmax; unfold maxLen at hmax; omega
    simp only at hroom hmax
    have hzc : (Value.int IntKind.i64 0).cells = #[.int .i64 0] := rfl
    rcases h with h | ⟨b, zs, h1, h2, h3⟩
    · cases h
      simp only [Nat.zero_add] at hroom h63 hmax
      have hr := run_append_nil (P := P) w t ty e i _ ht hi hz a ys.length capx _ hnl1 hcell hpos h63 (by omega)
      refine ⟨(w.heap.size, aread A rnil ++ ys, grownCap w ys.length 0 e) :: A, ⟨some (w.heap.size, 0), 0 + ys.length, grownCap w ys.length 0 e⟩, _, (w.heap.size, _) :: fp, by simpa [rawV] using hr, .inr (.inr ⟨_, _, hnew, by simpa using grownCap_ge w ys.length 0 e, rfl, rfl⟩), ⟨_, fp, rfl, ⟨_, (Builtin.zeroCells (Value.int .i64 0).cells (grownCap w ys.length 0 e - ys.length)).toList, rfl, by simp [aread], ?_, by simpa [aread] using hy64, grownCap_le_maxLen w _ _ _ hmax⟩, hA⟩, hw.drew.alloc _⟩
      have := grownCap_ge w ys.length 0 e
      simp [size_zeroCells, hzc]; omega
    · simp only at h1 h2 h3; subst h1
      obtain ⟨f1, o, f2, rfl, ⟨arr, rst, rfl, g1, g2, g3, g4⟩, hput⟩ := hA.split h2 hw.nodupL
      simp only at g1 g2 g3 g4
      have hg := hw.own (b, .cells arr e (0, 0)) (by simp)
      have hsize : zs.length ≤ arr.size := by rw [← Array.length_toList, g1]; simp
      by_cases hfit : m + ys.length ≤ cap
      · have hr := run_append_room (P := P) w t ty e i ht hi b m cap arr hg a ys.length capx _ hnl1 hcell (by intro v hv; obtain ⟨q, _, rfl⟩ := List.mem_map.1 hv; rfl) hfit (by rw [hnl1, hsz]; omega)
        have hblk : IsBlk e (b, zs.take m ++ (ys ++ zs.drop (m + ys.length)), cap) (.cells (arr.toList.take (m * i.size) ++ ys.map (Value.int .i64) ++ arr.toList.drop (m * i.size + (ys.map (Value.int .i64)).length)).toArray e (0, 0)) := by
          refine ⟨_, rst.drop (m + ys.length - zs.length), rfl, ?_, ?_, fun v hv => ?_, g4⟩
          · have e1 : arr.toList.take (m * i.size) = (zs.take m).map (Value.int .i64) := by
              rw [hsz, Nat.mul_one, g1, List.take_append_of_le_length (by simpa using h3), List.map_take]
            have e2 : arr.toList.drop (m * i.size + (ys.map (Value.int .i64)).length) = (zs.drop (m + ys.length)).map (Value.int .i64) ++ rst.drop (m + ys.length - zs.length) := by
              rw [hsz, Nat.mul_one, List.length_map, g1, List.drop_append, List.length_map, List.map_drop]
            rw [e1, e2]; simp
          · have := congrArg List.length g1
            simp only [Array.length_toList, List.length_append, List.length_map] at this
            simp [hsz]; omega
          · rcases List.mem_append.1 hv with hv | hv
            · exact g3 v (List.mem_of_mem_take hv)
            · rcases List.mem_append.1 hv with hv | hv
              · exact hy64 v hv
              · exact g3 v (List.mem_of_mem_drop hv)
        exact ⟨_, ⟨some (b, 0), m + ys.length, cap⟩, _, _, hr, .inr (.inl ⟨b, zs, rfl, h2, hfit, rfl, rfl⟩), hput _ _ hblk, St.unfocus (St.write hw.focus rfl rfl rfl (by simp [World.setRow]) (setRow_heap w b arr _ e _ hg) (fun k hk => setRow_other w b k _ hk))⟩
      · have holds : ∀ j u, ((zs.take m).map (Value.int .i64))[j]? = some u → w.cell? ((⟨b, 0, none⟩ : Addr).add j) = some u := fun j u hj => by
          have hjl := (List.getElem?_eq_some_iff.1 hj).1
          rw [List.length_map, List.length_take, Nat.min_eq_left h3] at hjl
          rw [Addr.add_lit]
          simp only [World.cell?, hg]
          simp only [Option.isSome_none, Bool.false_eq_true, if_false]
          rw [← Array.getElem?_toList, g1, Nat.zero_add, List.getElem?_append_left (by rw [List.length_map]; omega), ← hj, List.map_take, List.getElem?_take_of_lt hjl]
        have hr := run_append_grow (P := P) w t ty e i _ ht hi hz ⟨b, 0, none⟩ m cap _ (by rw [hsz]; simp; omega) holds a ys.length capx _ hnl1 hcell (by omega) h63 (growslice_fits (by omega) hroom)
        have hread : aread A ⟨some (b, 0), m, cap⟩ = zs.take m := by simp [aread, acont_of h2]
        have hge := grownCap_ge w (m + ys.length) cap e
        refine ⟨(w.heap.size, aread A ⟨some (b, 0), m, cap⟩ ++ ys, grownCap w (m + ys.length) cap e) :: A, ⟨some (w.heap.size, 0), m + ys.length, grownCap w (m + ys.length) cap e⟩, _, (w.heap.size, _) :: _, hr, .inr (.inr ⟨_, _, hnew, hge, rfl, rfl⟩), ⟨_, _, rfl, ⟨_, (Builtin.zeroCells (Value.int .i64 0).cells (grownCap w (m + ys.length) cap e - (m + ys.length))).toList, rfl, by simp [hread], ?_, ?_, grownCap_le_maxLen w _ _ _ hmax⟩, hA⟩, hw.drew.alloc _⟩
        · simp [size_zeroCells, hzc]; omega
        · intro v hv
          rw [hread] at hv
          rcases List.mem_append.1 hv with hv | hv
          · exact g3 v (List.mem_of_mem_take hv)
          · exact hy64 v hv
theorem WL.r_append {d : Nat} {bytes : Nat} {u : Value} {ys : List Int} (hdn : Nat.blt d n = true) (ht : P.underlying t = some (.slice e)) (hi : (P.info? e).map (fun i => (i.zero, i.size, i.bytes)) = some (some (.int .i64 0), 1, bytes))
    (hx : opv l x = some (rawV r)) (hy : opv l y = some u) (hw : St w0 H (fp ++ L) w) (hA : IsAr e A fp) (hsrc : Src (cInt .i64) H P w u ys) (h : ApOk A r) (hroom : Room (r.n + ys.length) bytes)
    (k : ∀ A' r' w' fp', ApR A r ys A' r' → IsAr e A' fp' → St w0 H (fp' ++ L) w' → WL P ops Q n ((d, rawV r') :: l) rest w') :
    WL P ops Q n l (⟨some d, .call { callee := .builtin .append, args := #[x, y], argTypes := #[t, t] }, ty, pos, af, none⟩ :: rest) w := by
  obtain ⟨i, hI, hz, h1, h2⟩ := info_parts hi
  subst h2
  obtain ⟨A', r', w', fp', hr, ho, hA', hst⟩ := run_append_raw (P := P) (ty := ty) ht hI hz h1 hw hA hsrc h hroom.1 hroom.2
  refine WL.turn rfl rfl hdn (fun a ha => ?_) (k A' r' w' fp' ho hA' hst)
  simp [execOp, resolve, invoke, builtin, ha.eval hx, ha.eval hy, hr]
/-- An owned slice goes into the arena. -/
theorem OwnSl.absorb {v : Value} {xs : List Int} {fq : Seg} (hA : IsAr T A fp) (h : OwnSl H (cInt .i64) T v xs fq) (hw : St w0 H (fq ++ (fp ++ L)) w) :
    ∃ A' r, v = rawV r ∧ AbR A xs A' r ∧ IsAr T A' (fq ++ fp) ∧ St w0 H ((fq ++ fp) ++ L) w := by
  have hw' : St w0 H ((fq ++ fp) ++ L) w := by rw [List.append_assoc]; exact hw
  rcases h with ⟨rfl, rfl, rfl⟩ | ⟨b, cap, arr, cs, rst, rfl, rfl, e3, e4, e5, e6, e7⟩
  · exact ⟨A, rnil, rfl, .inl ⟨rfl, rfl, rfl⟩, hA, hw'⟩
  · obtain ⟨rfl, h64⟩ := ints_ar e7
    refine ⟨(b, xs, cap) :: A, ⟨some (b, 0), xs.length, cap⟩, rfl, .inr ⟨b, cap, ?_, e5, rfl, rfl⟩, ⟨_, fp, rfl, ⟨arr, rst, rfl, e3, by simpa [cInt] using e4, h64, e6⟩, hA⟩, hw'⟩
    cases hg : aget A b with
    | none => rfl
    | some p =>
      have hm := aget_mem hg
      rw [← hA.keys] at hm
      have := hw.nodup
      simp only [List.cons_append, List.nil_append, List.map_cons, List.nodup_cons, List.map_append, List.mem_append, not_or] at this
      exact absurd hm this.1.1
end rules

/-! ### Floats of which nothing is asked, but that they are numbers -/
def IsF (u : Value) : Prop := ∃ b, u = .float .f64 b ∧ b ≤ 9218868437227405312
/-- A number that is not 0 and not without end. -/
def IsFin (u : Value) : Prop := ∃ b, u = .float .f64 b ∧ 0 < b ∧ b < 9218868437227405312
theorem IsFin.f {u : Value} (h : IsFin u) : IsF u := by obtain ⟨b, rfl, _, h⟩ := h; exact ⟨b, rfl, Nat.le_of_lt h⟩
def cF : Codec Unit where
  size := 1
  rep := fun _ cs _ => ∃ u, cs = [u] ∧ IsF u
  len := fun ⟨u, h, _⟩ => by rw [h]; rfl
  mono := fun _ h => h
  one := fun ⟨u, h, b, e, _⟩ v hv => by rw [h] at hv; rw [List.mem_singleton.1 hv, e]; rfl
theorem cF_rep {H : View} {u : Value} {x : Unit} (h : cF.rep H [u] x) : IsF u := by obtain ⟨v, h, h'⟩ := h; cases h; exact h'
theorem cF_mk {H : View} {u : Value} (h : IsF u) {x : Unit} : cF.rep H [u] x := ⟨u, rfl, h⟩
theorem read_pos {b : Nat} (h : b ≤ 9218868437227405312) : (∃ m p, FloatKind.f64.format.read b = .number false m p ∧ (0 < b → 0 < m)) ∨ FloatKind.f64.format.read b = .infinity false ∧ b = 9218868437227405312 := by
  have e1 : FloatKind.f64.format.signWeight = 9223372036854775808 := by decide
  have e2 : FloatKind.f64.format.binade = 4503599627370496 := by decide
  have e3 : FloatKind.f64.format.infRung = 9218868437227405312 := by decide
  have h1 : b / 9223372036854775808 % 2 = 0 := by omega
  have h2 : b % 9223372036854775808 = b := by omega
  unfold Ieee.Format.read
  simp only [e1, e2, e3, h1, h2]
  by_cases h3 : b < 4503599627370496
  · simp only [if_pos h3]; exact .inl ⟨_, _, rfl, fun h => h⟩
  · by_cases h4 : b < 9218868437227405312
    · simp only [if_neg h3, if_pos h4]; exact .inl ⟨_, _, rfl, fun _ => by omega⟩
    · have h5 : b = 9218868437227405312 := by omega
      simp only [if_neg h3, if_neg h4, if_pos h5]; exact .inr ⟨rfl, h5⟩
theorem write_pos (m : Nat) (p : Int) : FloatKind.f64.format.write (.number false m p) ≤ 9218868437227405312 := by
  have e3 : FloatKind.f64.format.infRung = 9218868437227405312 := by decide
  unfold Ieee.Format.write Ieee.Format.nearest
  simp only
  split
  · simp [Ieee.Format.word]
  · simp only [Ieee.Format.word, e3, Bool.false_eq_true, if_false]; exact Nat.min_le_right _ _
theorem write_inf : FloatKind.f64.format.write (.infinity false) = 9218868437227405312 := by decide
theorem f_add {x y : Nat} (hx : x ≤ 9218868437227405312) (hy : y ≤ 9218868437227405312) : ∃ r, FloatKind.f64.format.add x y = some r ∧ r ≤ 9218868437227405312 := by
  unfold Ieee.Format.add
  rcases read_pos hx with ⟨m, p, e, _⟩ | ⟨e, _⟩ <;> rcases read_pos hy with ⟨m', p', e', _⟩ | ⟨e', _⟩ <;> rw [e, e']
  · refine ⟨_, rfl, ?_⟩
    have : (if Ieee.signed false m (p - min p p').toNat + Ieee.signed false m' (p' - min p p').toNat = 0 then (false && false) else decide (Ieee.signed false m (p - min p p').toNat + Ieee.signed false m' (p' - min p p').toNat < 0)) = false := by
      split
      · rfl
      · have h1 : ∀ (m k : Nat), (0 : Int) ≤ Ieee.signed false m k := fun m k => by simp only [Ieee.signed, Bool.false_eq_true, if_false]; exact Int.natCast_nonneg _
        have := h1 m (p - min p p').toNat; have := h1 m' (p' - min p p').toNat
        rw [decide_eq_false_iff_not]; omega
    rw [this]; exact write_pos _ _
  · exact ⟨_, rfl, Nat.le_of_eq write_inf⟩
  · exact ⟨_, rfl, Nat.le_of_eq write_inf⟩
  · exact ⟨_, rfl, Nat.le_of_eq write_inf⟩
theorem f_mul {x y : Nat} (hx : x ≤ 9218868437227405312) (h0 : 0 < y) (hy : y < 9218868437227405312) : ∃ r, FloatKind.f64.format.mul x y = some r ∧ r ≤ 9218868437227405312 := by
  unfold Ieee.Format.mul
  rcases read_pos (Nat.le_of_lt hy) with ⟨m', p', e', h1⟩ | ⟨_, h⟩
  · have hm := h1 h0
    rcases read_pos hx with ⟨m, p, e, _⟩ | ⟨e, _⟩ <;> rw [e, e']
    · exact ⟨_, rfl, write_pos _ _⟩
    · refine ⟨_, by simp only [Ieee.Datum.product]; rw [if_neg (by omega)]; rfl, Nat.le_of_eq write_inf⟩
  · omega
section
variable {P : Program} {n : Nat} {l : List (Nat × Value)} {C : World → Prop} {dst : Option Tmp} {ty : TypeId} {pos : String} {af : Array Edge} {gd : Option (Nat × Bool)} {t t' : TypeId} {x y : Operand} {u v : Value}
theorem ex_fbin {op : BinOp} {a b : Nat} {r : Value} (hx : opv l x = some (.float .f64 a)) (hy : opv l y = some (.float .f64 b)) (hg : ∀ w, (eqGuard op t x y (.float .f64 a) (.float .f64 b)).run P w = .ok () w) (h : ∀ w, (binOp op t (.float .f64 a) (.float .f64 b)).run P w = .ok r w) :
    Exv P n l C ⟨dst, .binOp op t x y t', ty, pos, af, gd⟩ r := fun w _ a ha => by
  simp only [execOp, ha.eval hx, ha.eval hy, Sem.run_bind, hg, Result.andThen_ok, h]; rfl
theorem ex_f_add (hx : opv l x = some u) (hy : opv l y = some v) (hu : IsF u) (hv : IsF v) : ∃ z, IsF z ∧ Exv P n l C ⟨dst, .binOp .add t x y t', ty, pos, af, gd⟩ z := by
  obtain ⟨a, rfl, ha⟩ := hu; obtain ⟨b, rfl, hb⟩ := hv
  obtain ⟨r, hr, h⟩ := f_add ha hb
  exact ⟨_, ⟨r, rfl, h⟩, ex_fbin hx hy (fun _ => rfl) fun w => run_float_arith w .add t .f64 a b r hr⟩
theorem ex_f_mul (hx : opv l x = some u) (hy : opv l y = some v) (hu : IsF u) (hv : IsFin v) : ∃ z, IsF z ∧ Exv P n l C ⟨dst, .binOp .mul t x y t', ty, pos, af, gd⟩ z := by
  obtain ⟨a, rfl, ha⟩ := hu; obtain ⟨b, rfl, h0, hb⟩ := hv
  obtain ⟨r, hr, h⟩ := f_mul ha h0 hb
  exact ⟨_, ⟨r, rfl, h⟩, ex_fbin hx hy (fun _ => rfl) fun w => run_float_arith w .mul t .f64 a b r hr⟩
theorem ex_f_gtr (hx : opv l x = some u) (hy : opv l y = some v) (hu : IsF u) (hv : IsF v) : ∃ z, (∃ b : Bool, z = .bool b) ∧ Exv P n l C ⟨dst, .binOp .gtr t x y t', ty, pos, af, gd⟩ z := by
  obtain ⟨a, rfl, ha⟩ := hu; obtain ⟨b, rfl, hb⟩ := hv
  exact ⟨_, ⟨_, rfl⟩, ex_fbin hx hy (fun _ => rfl) fun w => by simp only [binOp, Op.floatCmp]; rfl⟩
end
theorem IsF.one {u : Value} (h : IsF u) : u.oneCell' = true := by obtain ⟨b, rfl, _⟩ := h; rfl
end Go.Vc
