/- The heap of the calculus: a persistent view H, a list of owned blocks L; how lists lie in slices, shared (in the view) or owned. -/
import Derived.Test.YtmdoicffgeihcaaGreatDoorCore
namespace Go.Vc
open Go

abbrev View := Nat → Option Obj
abbrev Seg := List (Nat × Obj)
def View.le (H K : View) : Prop := ∀ k o, H k = some o → K k = some o
theorem View.le.refl (H : View) : View.le H H := fun _ _ h => h
theorem View.le.trans {H K M : View} (h : View.le H K) (k : View.le K M) : View.le H M := fun i o x => k i o (h i o x)

structure St (w0 : World) (H : View) (L : Seg) (w : World) : Prop where
  os : w.os = w0.os
  tape : w.tape = w0.tape
  output : w.output = w0.output
  size : w0.heap.size ≤ w.heap.size
  fits : ∀ k o, H k = some o → w.heap[k]? = some o
  own : ∀ p ∈ L, w.heap[p.1]? = some p.2
  sep : ∀ p ∈ L, H p.1 = none
  nodup : (L.map (·.1)).Nodup
  ahead : 0 ≤ w.drawn

/-- The view with a segment put in. -/
def View.put (H : View) (s : Seg) : View := fun k => match s.find? (fun p => p.1 == k) with | some p => some p.2 | none => H k

section st
variable {w0 w : World} {H : View} {L : Seg}
theorem St.drew (h : St w0 H L w) : St w0 H L w.drew := ⟨h.os, h.tape, h.output, h.size, h.fits, h.own, h.sep, h.nodup, Nat.le_succ_of_le h.ahead⟩
theorem St.drawn (h : St w0 H L w) (k : Nat) (hk : w.drawn ≤ k := by first | exact Nat.le_succ _ | exact Nat.le_refl _ | omega) : St w0 H L { w with drawn := k } := ⟨h.os, h.tape, h.output, h.size, h.fits, h.own, h.sep, h.nodup, Nat.le_trans h.ahead hk⟩
theorem St.perm {M : Seg} (h : St w0 H L w) (hp : L.Perm M) : St w0 H M w :=
  ⟨h.os, h.tape, h.output, h.size, h.fits, fun p hm => h.own p (hp.mem_iff.2 hm), fun p hm => h.sep p (hp.mem_iff.2 hm), (hp.map _).nodup_iff.1 h.nodup, h.ahead⟩
theorem St.weaken {K : View} (h : St w0 K L w) (hle : View.le H K) : St w0 H L w := by
  refine ⟨h.os, h.tape, h.output, h.size, fun k o x => h.fits k o (hle k o x), h.own, fun p hm => ?_, h.nodup, h.ahead⟩
  cases hx : H p.1 with
  | none => rfl
  | some o =>
    have := h.sep p hm
    rw [hle _ _ hx] at this
    cases this
theorem St.drop {s : Seg} (h : St w0 H (s ++ L) w) : St w0 H L w :=
  ⟨h.os, h.tape, h.output, h.size, h.fits, fun p hm => h.own p (List.mem_append_right _ hm), fun p hm => h.sep p (List.mem_append_right _ hm),
    by have := h.nodup; rw [List.map_append] at this; exact (List.nodup_append.1 this).2.1, h.ahead⟩
theorem St.lt (h : St w0 H L w) {k : Nat} {o : Obj} (hk : H k = some o) : k < w.heap.size := (Array.getElem?_eq_some_iff.1 (h.fits k o hk)).1
theorem St.new (h : St w0 H L w) : H w.heap.size = none := by
  cases hx : H w.heap.size with
  | none => rfl
  | some o => have := h.lt hx; omega
theorem St.alloc (h : St w0 H L w) (o : Obj) : St w0 H ([(w.heap.size, o)] ++ L) (w.alloc o) := by
  refine ⟨h.os, h.tape, h.output, by simp; exact Nat.le_succ_of_le h.size, fun k x hk => ?_, fun p hm => ?_, fun p hm => ?_, ?_, by first | exact Nat.zero_le _ | simpa using h.ahead⟩
  · rw [heap_alloc_old w o (h.lt hk)]; exact h.fits k x hk
  · rcases List.mem_append.1 hm with hm | hm
    · rw [List.mem_singleton.1 hm]; exact heap_alloc_new w o
    · have := h.own p hm
      rw [heap_alloc_old w o (Array.getElem?_eq_some_iff.1 this).1]; exact this
  · rcases List.mem_append.1 hm with hm | hm
    · rw [List.mem_singleton.1 hm]; exact h.new
    · exact h.sep p hm
  · rw [List.map_append, List.nodup_append]
    refine ⟨by simp, h.nodup, fun a ha b hb => ?_⟩
    simp only [List.map_cons, List.map_nil, List.mem_singleton] at ha
    subst ha
    obtain ⟨p, hp, rfl⟩ := List.mem_map.1 hb
    have := (Array.getElem?_eq_some_iff.1 (h.own p hp)).1
    omega
/-- A block that is owned is written anew. -/
theorem St.write {w' : World} {b : Nat} {o o' : Obj} (h : St w0 H ([(b, o)] ++ L) w) (hos : w'.os = w.os) (htape : w'.tape = w.tape) (hout : w'.output = w.output) (hsz : w'.heap.size = w.heap.size)
    (hb : w'.heap[b]? = some o') (ho : ∀ k, k ≠ b → w'.heap[k]? = w.heap[k]?) (hdr : w.drawn ≤ w'.drawn := by first | exact Nat.le_refl _ | simp | omega) : St w0 H ([(b, o')] ++ L) w' := by
  have hnd := h.nodup
  rw [List.map_append, List.nodup_append] at hnd
  have hbL : ∀ p ∈ L, p.1 ≠ b := fun p hp he => hnd.2.2 b (by simp) p.1 (List.mem_map_of_mem hp) he.symm
  have hbH : H b = none := h.sep (b, o) (by simp)
  refine ⟨hos.trans h.os, htape.trans h.tape, hout.trans h.output, by rw [hsz]; exact h.size, fun k x hk => ?_, fun p hm => ?_, fun p hm => ?_, ?_, Nat.le_trans h.ahead hdr⟩
  · rw [ho k (fun e => by subst e; rw [hbH] at hk; cases hk)]; exact h.fits k x hk
  · rcases List.mem_append.1 hm with hm | hm
    · rw [List.mem_singleton.1 hm]; exact hb
    · rw [ho _ (hbL p hm)]; exact h.own p (List.mem_append_right _ hm)
  · rcases List.mem_append.1 hm with hm | hm
    · rw [List.mem_singleton.1 hm]; exact hbH
    · exact h.sep p (List.mem_append_right _ hm)
  · rw [List.map_append, List.nodup_append]; exact hnd
theorem View.put_none {s : Seg} {k : Nat} (h : ∀ p ∈ s, p.1 ≠ k) : H.put s k = H k := by
  unfold View.put
  have : s.find? (fun p => p.1 == k) = none := by
    rw [List.find?_eq_none]; intro p hp; simpa using h p hp
  rw [this]
theorem View.put_mem {s : Seg} (hn : (s.map (·.1)).Nodup) {p : Nat × Obj} (hp : p ∈ s) : H.put s p.1 = some p.2 := by
  unfold View.put
  induction s with
  | nil => cases hp
  | cons q s ih =>
    rw [List.map_cons, List.nodup_cons] at hn
    rcases List.mem_cons.1 hp with rfl | hp
    · simp
    · have hne : ¬ (q.1 == p.1) = true := fun e => hn.1 (by rw [beq_iff_eq] at e; rw [e]; exact List.mem_map_of_mem hp)
      rw [List.find?_cons_of_neg (p := fun p_1 : Nat × Obj => p_1.1 == p.1) hne]; exact ih hn.2 hp
theorem St.put_le {s : Seg} (h : St w0 H (s ++ L) w) : View.le H (H.put s) := fun k o hk => by
  rw [View.put_none (fun p hp e => by have := h.sep p (List.mem_append_left _ hp); rw [e, hk] at this; cases this)]; exact hk
theorem View.put_some {s : Seg} {k : Nat} {o : Obj} (h : H.put s k = some o) : (k, o) ∈ s ∨ (H k = some o ∧ ∀ p ∈ s, p.1 ≠ k) := by
  unfold View.put at h
  split at h
  · rename_i p hp
    cases h
    have h1 := List.mem_of_find?_eq_some hp
    have h2 : p.1 = k := by simpa using List.find?_some hp
    subst h2; exact .inl h1
  · rename_i hp
    exact .inr ⟨h, fun p hm e => by have := List.find?_eq_none.1 hp p hm; simp [e] at this⟩
/-- What is owned becomes persistent. -/
theorem St.freeze {s : Seg} (h : St w0 H (s ++ L) w) : St w0 (H.put s) L w := by
  have hnd := h.nodup
  rw [List.map_append, List.nodup_append] at hnd
  refine ⟨h.os, h.tape, h.output, h.size, fun k o hk => ?_, fun p hm => h.own p (List.mem_append_right _ hm), fun p hm => ?_, hnd.2.1, h.ahead⟩
  · rcases View.put_some hk with hk | hk
    · exact h.own (k, o) (List.mem_append_left _ hk)
    · exact h.fits k o hk.1
  · rw [View.put_none (fun q hq e => hnd.2.2 q.1 (List.mem_map_of_mem hq) p.1 (List.mem_map_of_mem hm) e)]; exact h.sep p (List.mem_append_right _ hm)
/-- What was lent comes back. -/
theorem St.back {w' : World} {s M : Seg} (h : St w0 H (s ++ L) w) (h' : St w0 (H.put s) M w') : St w0 H (s ++ M) w' := by
  have hnd := h.nodup
  rw [List.map_append, List.nodup_append] at hnd
  refine ⟨h'.os, h'.tape, h'.output, h'.size, fun k o hk => h'.fits k o (h.put_le k o hk), fun p hm => ?_, fun p hm => ?_, ?_, h'.ahead⟩
  · rcases List.mem_append.1 hm with hm | hm
    · exact h'.fits _ _ (View.put_mem hnd.1 hm)
    · exact h'.own p hm
  · rcases List.mem_append.1 hm with hm | hm
    · exact h.sep p (List.mem_append_left _ hm)
    · have := h'.sep p hm
      cases hx : H p.1 with
      | none => rfl
      | some o => rw [h.put_le _ _ hx] at this; cases this
  · rw [List.map_append, List.nodup_append]
    refine ⟨hnd.1, h'.nodup, fun a ha b hb e => ?_⟩
    subst e
    obtain ⟨p, hp, rfl⟩ := List.mem_map.1 ha
    obtain ⟨q, hq, e⟩ := List.mem_map.1 hb
    have := h'.sep q hq
    rw [e, View.put_mem hnd.1 hp] at this
    cases this
/-- The order of the segments. -/
theorem St.f2 {a b : Seg} (h : St w0 H (a ++ (b ++ L)) w) : St w0 H (b ++ (a ++ L)) w := h.perm (by
  rw [← List.append_assoc, ← List.append_assoc]; exact List.Perm.append_right _ List.perm_append_comm)
theorem St.f3 {a b c : Seg} (h : St w0 H (a ++ (b ++ (c ++ L))) w) : St w0 H (c ++ (a ++ (b ++ L))) w :=
  St.f2 (L := b ++ L) (h.perm (List.Perm.append_left a (by rw [← List.append_assoc, ← List.append_assoc]; exact List.Perm.append_right _ List.perm_append_comm)))
theorem St.f4 {a b c d : Seg} (h : St w0 H (a ++ (b ++ (c ++ (d ++ L)))) w) : St w0 H (d ++ (a ++ (b ++ (c ++ L)))) w :=
  St.f3 (L := c ++ L) (h.perm (List.Perm.append_left a (List.Perm.append_left b (by rw [← List.append_assoc, ← List.append_assoc]; exact List.Perm.append_right _ List.perm_append_comm))))
theorem St.f5 {a b c d e : Seg} (h : St w0 H (a ++ (b ++ (c ++ (d ++ (e ++ L))))) w) : St w0 H (e ++ (a ++ (b ++ (c ++ (d ++ L))))) w :=
  St.f4 (L := d ++ L) (h.perm (List.Perm.append_left a (List.Perm.append_left b (List.Perm.append_left c (by rw [← List.append_assoc, ← List.append_assoc]; exact List.Perm.append_right _ List.perm_append_comm)))))
theorem St.f6 {a b c d e f : Seg} (h : St w0 H (a ++ (b ++ (c ++ (d ++ (e ++ (f ++ L)))))) w) : St w0 H (f ++ (a ++ (b ++ (c ++ (d ++ (e ++ L)))))) w :=
  St.f5 (L := e ++ L) (h.perm (List.Perm.append_left a (List.Perm.append_left b (List.Perm.append_left c (List.Perm.append_left d (by rw [← List.append_assoc, ← List.append_assoc]; exact List.Perm.append_right _ List.perm_append_comm))))))
theorem St.nilseg (h : St w0 H L w) : St w0 H (([] : Seg) ++ L) w := h
theorem St.refl (w : World) : St w (fun k => w.heap[k]?) [] w := ⟨rfl, rfl, rfl, Nat.le_refl _, fun _ _ h => h, fun _ h => (by cases h), fun _ h => (by cases h), List.nodup_nil, Nat.zero_le _⟩
/-- At the end of a law: nothing that was there has turned. -/
theorem St.below {w' : World} (h : St w (fun k => w.heap[k]?) L w') : RowKit.Below w.heap.size w w' :=
  ⟨h.os, h.tape, h.output, h.size, fun k hk => by
    have : w.heap[k]? = some w.heap[k] := Array.getElem?_eq_getElem hk
    rw [this]; exact h.fits k _ this⟩
end st

/-! ### How values lie in cells -/
structure Codec (α : Type) where
  size : Nat
  rep : View → List Value → α → Prop
  len : ∀ {H cs x}, rep H cs x → cs.length = size
  mono : ∀ {H K cs x}, View.le H K → rep H cs x → rep K cs x
  one : ∀ {H cs x}, rep H cs x → ∀ u ∈ cs, u.oneCell' = true

def Codec.reps {α : Type} (c : Codec α) (H : View) : List Value → List α → Prop
  | cs, [] => cs = []
  | cs, x :: xs => ∃ a b, cs = a ++ b ∧ c.rep H a x ∧ c.reps H b xs

section reps
variable {α : Type} {c : Codec α} {H K : View}
theorem Codec.reps_mono (h : View.le H K) : ∀ {xs : List α} {cs : List Value}, c.reps H cs xs → c.reps K cs xs
  | [], _, hr => hr
  | _ :: _, _, ⟨a, b, e, h1, h2⟩ => ⟨a, b, e, c.mono h h1, Codec.reps_mono h h2⟩
theorem Codec.reps_length : ∀ {xs : List α} {cs : List Value}, c.reps H cs xs → cs.length = xs.length * c.size
  | [], _, hr => by cases hr; simp
  | _ :: xs, _, ⟨a, b, e, h1, h2⟩ => by
    rw [e, List.length_append, c.len h1, Codec.reps_length h2, List.length_cons, Nat.add_mul]; omega
theorem Codec.reps_one : ∀ {xs : List α} {cs : List Value}, c.reps H cs xs → ∀ u ∈ cs, u.oneCell' = true
  | [], _, hr => by cases hr; simp
  | _ :: xs, _, ⟨a, b, e, h1, h2⟩ => by
    intro u hu; rw [e] at hu
    rcases List.mem_append.1 hu with hu | hu
    · exact c.one h1 u hu
    · exact Codec.reps_one h2 u hu
theorem Codec.reps_append : ∀ {xs ys : List α} {cs ds : List Value}, c.reps H cs xs → c.reps H ds ys → c.reps H (cs ++ ds) (xs ++ ys)
  | [], _, _, _, hr, hs => by cases hr; exact hs
  | _ :: _, _, _, ds, ⟨a, b, e, h1, h2⟩, hs => ⟨a, b ++ ds, by rw [e, List.append_assoc], h1, Codec.reps_append h2 hs⟩
theorem Codec.reps_split : ∀ {xs ys : List α} {cs : List Value}, c.reps H cs (xs ++ ys) → ∃ a b, cs = a ++ b ∧ c.reps H a xs ∧ c.reps H b ys
  | [], _, cs, hr => ⟨[], cs, rfl, rfl, hr⟩
  | _ :: _, _, _, ⟨a, b, e, h1, h2⟩ => by
    obtain ⟨a', b', e', h1', h2'⟩ := Codec.reps_split h2
    exact ⟨a ++ a', b', by rw [e, e', List.append_assoc], ⟨a, a', rfl, h1, h1'⟩, h2'⟩
theorem Codec.reps_single {cs : List Value} {x : α} : c.reps H cs [x] ↔ c.rep H cs x :=
  ⟨fun ⟨a, b, e, h1, h2⟩ => by cases h2; rw [List.append_nil] at e; exact e ▸ h1, fun h => ⟨cs, [], by simp, h, rfl⟩⟩
/-- The cells of one element. -/
theorem Codec.reps_get {xs : List α} {cs : List Value} (h : c.reps H cs xs) {i : Nat} {x : α} (hi : xs[i]? = some x) :
    ∃ a m b, cs = a ++ (m ++ b) ∧ a.length = i * c.size ∧ c.rep H m x ∧ c.reps H a (xs.take i) ∧ c.reps H b (xs.drop (i + 1)) := by
  have hlt : i < xs.length := (List.getElem?_eq_some_iff.1 hi).1
  have e : xs = xs.take i ++ ([x] ++ xs.drop (i + 1)) := by
    have hx : xs[i] = x := (List.getElem?_eq_some_iff.1 hi).2
    rw [List.singleton_append, ← hx, ← List.drop_eq_getElem_cons hlt, List.take_append_drop]
  rw [e] at h
  obtain ⟨a, r, h1, h2, h3⟩ := Codec.reps_split h
  obtain ⟨m, b, h4, h5, h6⟩ := Codec.reps_split h3
  exact ⟨a, m, b, by rw [h1, h4], by rw [Codec.reps_length h2, List.length_take, Nat.min_eq_left (Nat.le_of_lt hlt)], Codec.reps_single.1 h5, h2, h6⟩
end reps

/-- The element at a place (some other thing where there is none). -/
def ix {α : Type} [Inhabited α] (xs : List α) (i : Int) : α := xs.getD i.toNat default
theorem ix_get {α : Type} [Inhabited α] {xs : List α} {i : Int} (h0 : 0 ≤ i) (h1 : i < xs.length) : xs[i.toNat]? = some (ix xs i) := by
  have : i.toNat < xs.length := by omega
  simp [ix, this]
theorem ix_nat {α : Type} [Inhabited α] {xs : List α} {k : Nat} (h : k < xs.length) : ix xs (k : Int) = xs[k] := by simp [ix, h]
theorem ix_cons_zero {α : Type} [Inhabited α] (x : α) (xs : List α) : ix (x :: xs) 0 = x := rfl

/-- A list in a slice that is shared: it lies in the view. -/
def IsSl {α : Type} (H : View) (c : Codec α) (v : Value) (xs : List α) : Prop :=
  ∃ ad cap, v = .slice ad xs.length cap ∧ xs.length ≤ cap ∧ cap ≤ maxLen ∧ (ad = none → cap = 0) ∧
    (xs = [] ∨ ∃ b off arr T fz pre cs rest, ad = some ⟨b, off, none⟩ ∧ H b = some (.cells arr T fz) ∧ arr.toList = pre ++ (cs ++ rest) ∧ pre.length = off ∧ c.reps H cs xs)
/-- A list in a slice that is owned, from the head of a block on; or the nil slice. -/
def OwnSl {α : Type} (H : View) (c : Codec α) (T : TypeId) (v : Value) (xs : List α) (fp : Seg) : Prop :=
  (v = .slice none 0 0 ∧ xs = [] ∧ fp = []) ∨
  ∃ b cap arr cs rest, v = .slice (some ⟨b, 0, none⟩) xs.length cap ∧ fp = [(b, .cells arr T (0, 0))] ∧ arr.toList = cs ++ rest ∧ arr.size = cap * c.size ∧ xs.length ≤ cap ∧ cap ≤ maxLen ∧ c.reps H cs xs
/-- A place in the view at which something lies. -/
def IsPt {α : Type} (H : View) (c : Codec α) (v : Value) (x : α) : Prop :=
  ∃ b off arr T fz pre cs rest, v = .pointer (some ⟨b, off, none⟩) ∧ H b = some (.cells arr T fz) ∧ arr.toList = pre ++ (cs ++ rest) ∧ pre.length = off ∧ c.rep H cs x
/-- The place of an element of an owned slice. -/
def OwnPt {α : Type} (c : Codec α) (v : Value) (i : Nat) (p : Value) : Prop :=
  ∃ b n cap, v = .slice (some ⟨b, 0, none⟩) n cap ∧ p = .pointer (some ⟨b, i * c.size, none⟩)

section sl
variable {α : Type} {c : Codec α} {H K : View}
theorem IsSl.mono {v : Value} {xs : List α} (h : IsSl H c v xs) (hle : View.le H K) : IsSl K c v xs := by
  obtain ⟨ad, cap, h1, h2, h3, h4, h5⟩ := h
  refine ⟨ad, cap, h1, h2, h3, h4, h5.imp id ?_⟩
  rintro ⟨b, off, arr, T, fz, pre, cs, rest, e1, e2, e3, e4, e5⟩
  exact ⟨b, off, arr, T, fz, pre, cs, rest, e1, hle _ _ e2, e3, e4, Codec.reps_mono hle e5⟩
theorem OwnSl.mono {T : TypeId} {v : Value} {xs : List α} {fp : Seg} (h : OwnSl H c T v xs fp) (hle : View.le H K) : OwnSl K c T v xs fp := by
  rcases h with h | ⟨b, cap, arr, cs, rest, e1, e2, e3, e4, e5, e6, e7⟩
  · exact .inl h
  · exact .inr ⟨b, cap, arr, cs, rest, e1, e2, e3, e4, e5, e6, Codec.reps_mono hle e7⟩
theorem IsPt.mono {v : Value} {x : α} (h : IsPt H c v x) (hle : View.le H K) : IsPt K c v x := by
  obtain ⟨b, off, arr, T, fz, pre, cs, rest, e1, e2, e3, e4, e5⟩ := h
  exact ⟨b, off, arr, T, fz, pre, cs, rest, e1, hle _ _ e2, e3, e4, c.mono hle e5⟩
theorem IsSl.nil : IsSl H c (.slice none 0 0) [] := ⟨none, 0, rfl, Nat.le_refl _, by unfold maxLen; omega, fun _ => rfl, .inl rfl⟩
theorem OwnSl.nil {T : TypeId} : OwnSl H c T (.slice none 0 0) [] [] := .inl ⟨rfl, rfl, rfl⟩
/-- An owned slice, its block put into the view. -/
theorem OwnSl.share {T : TypeId} {v : Value} {xs : List α} {fp : Seg} (h : OwnSl H c T v xs fp) (hle : View.le H (H.put fp)) : IsSl (H.put fp) c v xs := by
  rcases h with ⟨rfl, rfl, rfl⟩ | ⟨b, cap, arr, cs, rest, rfl, rfl, e3, e4, e5, e6, e7⟩
  · exact IsSl.nil
  · refine ⟨_, cap, rfl, e5, e6, fun h => (by cases h), .inr ⟨b, 0, arr, T, (0, 0), [], cs, rest, rfl, ?_, by simpa using e3, rfl, Codec.reps_mono hle e7⟩⟩
    exact View.put_mem (by simp) (p := (b, .cells arr T (0, 0))) (by simp)
end sl
end Go.Vc
