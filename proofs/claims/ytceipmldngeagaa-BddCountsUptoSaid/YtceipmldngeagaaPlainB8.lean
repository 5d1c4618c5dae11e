/- Diagrams in plain words, part 8: 'Sift' whole. No program in sight. -/
import Derived.Test.YtceipmldngeagaaPlainB7
set_option linter.unusedVariables false
set_option linter.unusedSimpArgs false
namespace Go.Vc
variable {n : Int} {order level : List Int} {G : List Fn} {T : Tb}
def wout (o : List Int) (v : Int) : List Int := o.filter fun x => decide (x ≠ v)
def ins (rest : List Int) (v : Int) (p : Nat) : List Int := rest.take p ++ v :: rest.drop p
/-- The first place of the least of the first 'k + 1'. -/
def am (g : Nat → Nat) : Nat → Nat
  | 0 => 0
  | k + 1 => if g (k + 1) < g (am g k) then k + 1 else am g k
theorem am_le {g : Nat → Nat} : ∀ k, am g k ≤ k
  | 0 => Nat.le_refl _
  | k + 1 => by unfold am; split; exact Nat.le_refl _; have := am_le (g := g) k; omega
noncomputable def siftVar (fs : List Fn) (o : List Int) (v : Int) : List Int := ins (wout o v) v (am (fun p => szF (ins (wout o v) v p) fs) (wout o v).length)
theorem Ord.nodup (h : Ord n order level) : order.Nodup := by
  have hl := h.lo
  rw [List.Nodup, List.pairwise_iff_getElem]
  intro i j hi hj hij e
  have a := h.ol (i : Int) (by omega) (by omega); have b := h.ol (j : Int) (by omega) (by omega)
  have x := ix_get (xs := order) (i := (i : Int)) (by omega) (by omega); have y := ix_get (xs := order) (i := (j : Int)) (by omega) (by omega)
  rw [Int.toNat_natCast, List.getElem?_eq_getElem hi] at x
  rw [Int.toNat_natCast, List.getElem?_eq_getElem hj] at y
  have := (Option.some.inj x).symm.trans (e.trans (Option.some.inj y))
  rw [this, b.2.2] at a
  omega
theorem Ord.mem (h : Ord n order level) {v : Int} : v ∈ order ↔ 0 ≤ v ∧ v < n := by
  have hl := h.lo
  constructor
  · intro hm
    obtain ⟨j, hj, e⟩ := List.mem_iff_getElem.1 hm
    have a := h.ol (j : Int) (by omega) (by omega)
    have x := ix_get (xs := order) (i := (j : Int)) (by omega) (by omega)
    rw [Int.toNat_natCast, List.getElem?_eq_getElem hj, e] at x
    rw [← Option.some.inj x] at a; exact ⟨a.1, a.2.1⟩
  · rintro ⟨a, b⟩
    have c := h.lv v a b
    have x := ix_get (xs := order) (i := ix level v) c.1 (by omega)
    rw [c.2.2] at x
    exact List.mem_of_getElem? x
theorem wout_notin {o : List Int} {v : Int} : v ∉ wout o v := by unfold wout; simp
theorem wout_same {o : List Int} {v : Int} (h : v ∉ o) : wout o v = o := List.filter_eq_self.2 fun x hx => by
  have : x ≠ v := fun e => h (e ▸ hx)
  simp [this]
theorem wout_ins {rest : List Int} {v : Int} {p : Nat} (h : v ∉ rest) : wout (ins rest v p) v = rest := by
  unfold wout ins
  rw [List.filter_append, List.filter_cons]
  simp only [ne_eq, not_true_eq_false, decide_false, Bool.false_eq_true, if_false]
  rw [← List.filter_append, List.take_append_drop]
  exact wout_same h
/-- Where a variable stands. -/
theorem ins_of (h : Ord n order level) {v : Int} (h0 : 0 ≤ v) (h1 : v < n) : order = ins (wout order v) v (ix level v).toNat ∧ (wout order v).length + 1 = n.toNat := by
  have hl := h.lo
  have lv := h.lv v h0 h1
  have hd := h.drop lv.1 lv.2.1
  rw [lv.2.2] at hd
  have e := List.take_append_drop (ix level v).toNat order
  rw [hd] at e
  have hx : (ix level v + 1).toNat = (ix level v).toNat + 1 := by omega
  rw [hx] at e
  have hnd := h.nodup
  rw [← e, List.nodup_append, List.nodup_cons] at hnd
  have n1 : v ∉ order.take (ix level v).toNat := fun hm => hnd.2.2 v hm v (by simp) rfl
  have hw : wout order v = order.take (ix level v).toNat ++ order.drop ((ix level v).toNat + 1) := by
    conv => lhs; rw [← e]
    unfold wout
    rw [List.filter_append, List.filter_cons]
    simp only [ne_eq, not_true_eq_false, decide_false, Bool.false_eq_true, if_false]
    exact congr (congrArg _ (wout_same n1)) (wout_same hnd.2.1.1)
  have hlt : (order.take (ix level v).toNat).length = (ix level v).toNat := by rw [List.length_take]; omega
  constructor
  · rw [hw]
    unfold ins
    rw [List.take_append_of_le_length (by omega), List.drop_append_of_le_length (by omega), List.take_of_length_le (by omega), List.drop_of_length_le (by omega), List.nil_append]
    exact e.symm
  · rw [hw, List.length_append, hlt, List.length_drop]; omega
theorem swO_mid {A B : List Int} {a b : Int} {L : Int} (hL : L = A.length) : swO (A ++ a :: b :: B) L = A ++ b :: a :: B := by
  have e1 : A ++ a :: b :: B = (A ++ [a]) ++ b :: B := by simp
  have h1 : ix (A ++ a :: b :: B) L = a := ix_mid hL
  have h2 : ix (A ++ a :: b :: B) (L + 1) = b := by rw [e1]; exact ix_mid (by simp; omega)
  unfold swO
  rw [h1, h2, set_mid hL]
  have e2 : A ++ b :: b :: B = (A ++ [b]) ++ b :: B := by simp
  rw [e2, set_mid (by simp; omega)]; simp
theorem ins_up {rest : List Int} {v : Int} {p : Nat} (hp : p < rest.length) : swO (ins rest v (p + 1)) p = ins rest v p ∧ swO (ins rest v p) p = ins rest v (p + 1) := by
  have ht : rest.take (p + 1) = rest.take p ++ [rest[p]] := by rw [List.take_add_one, List.getElem?_eq_getElem hp]; rfl
  have hd : rest.drop p = rest[p] :: rest.drop (p + 1) := List.drop_eq_getElem_cons hp
  have hl : ((p : Nat) : Int) = ((rest.take p).length : Nat) := by rw [List.length_take]; omega
  unfold ins
  rw [ht, hd, List.append_assoc, List.singleton_append]
  exact ⟨swO_mid hl, swO_mid hl⟩
theorem ins_length {rest : List Int} {v : Int} {p : Nat} : (ins rest v p).length = rest.length + 1 := by
  unfold ins
  have := congrArg List.length (List.take_append_drop p rest)
  rw [List.length_append] at this
  rw [List.length_append, List.length_cons]; omega
/-- A variable's level is its place. -/
theorem lv_ins (h : Ord n order level) {rest : List Int} {v : Int} {p : Nat} (ho : order = ins rest v p) (hp : p ≤ rest.length) : ix level v = p := by
  have hl := h.lo
  rw [ho, ins_length] at hl
  have : ix order (p : Int) = v := by rw [ho]; exact ix_mid (by rw [List.length_take]; omega)
  have := h.ol (p : Int) (by omega) (by omega)
  rw [‹ix order (p : Int) = v›] at this
  exact this.2.2
theorem rg_set {n : Int} {x : Int} (h0 : 0 ≤ x) (h1 : x < n) : (rg 0 x ++ List.replicate (n - x).toNat 0).set x.toNat x = rg 0 (x + 1) ++ List.replicate (n - (x + 1)).toNat 0 := by
  have e : (n - x).toNat = (n - (x + 1)).toNat + 1 := by omega
  have e2 : rg 0 (x + 1) = rg 0 x ++ [x] := by
    unfold rg
    have : (x + 1 - 0).toNat = (x - 0).toNat + 1 := by omega
    rw [this, List.range_succ, List.map_append]; simp; omega
  rw [e, List.replicate_succ, set_mid (by rw [rg_length]; omega), e2]; simp
/-- The tables of one Sift: all that was known is known. -/
structure Gone (n : Int) (G : List Fn) (T : Tb) (o l : List Int) (U : Tb) : Prop where
  ok : Ok n o l G U
  lim : U.lim = []
  kn : ∀ i, T.kn i → U.kn i
  F : ∀ i, T.kn i → U.F i = T.F i
theorem Gone.swap {o l : List Int} {U : Tb} (h : Gone n G T o l U) {L : Int} (h0 : 0 ≤ L) (h1 : L + 1 < n) {Q : Bool → Nds → List Int → Mp → List Int → List Int → Mp → Prop}
    (k : ∀ U', Gone n G T (swO o L) (swL o l L) U' → Q true U'.nodes U'.free U'.ms (swO o L) (swL o l L) U'.memo) : V_Swap U.nodes U.free U.ms o l U.memo L Q :=
  Swap_ok h.ok h.lim (by have := h.ok.ord.n9; unfold I64; omega) (fun hn => absurd ⟨h0, h1⟩ hn) fun _ _ U' ok' l' hk => k U' ⟨ok', l', fun i hi => (hk i (h.kn i hi)).1, fun i hi => (hk i (h.kn i hi)).2.trans (h.F i hi)⟩
theorem Gone.size {o l : List Int} {U : Tb} (h : Gone n G T o l U) {fs : List Int} (hf : ∀ f ∈ fs, T.kn f) {Q : Int → Prop} (k : Q (szF o (fs.map T.F))) : V_Size U.nodes U.free U.ms o l U.memo fs Q := by
  refine Size_sz h.ok h.lim (fun f hm => h.kn f (hf f hm)) ?_
  have : fs.map U.F = fs.map T.F := List.map_congr_left fun f hm => h.F f (hf f hm)
  rw [this]; exact k
theorem Sift_ok (h : Ok n order level G T) (hl : T.lim = []) {fs : List Int} (hf : ∀ f ∈ fs, T.kn f) {Q : Nds → List Int → Mp → List Int → List Int → Mp → Prop}
    (k : ∀ U o l vs, Gone n G T o l U → Srt (fun v => cntF order (fs.map T.F) v) n vs → o = vs.foldl (siftVar (fs.map T.F)) order → Q U.nodes U.free U.ms o l U.memo) : V_Sift T.nodes T.free T.ms order level T.memo fs Q := by
  have hlo := h.ord.lo; have n0 := h.ord.n0; have n9 := h.ord.n9
  have hnn : (n.toNat : Int) = n := by omega
  unfold V_Sift
  rw [hlo]
  refine fun _ => ⟨⟨n0, by omega, by omega⟩, all_ok h hl hf fun s hs => ?_⟩
  have hlive : ∀ x ∈ keys s, T.live x := fun x hx => by obtain ⟨p, hp, rfl⟩ := List.mem_map.1 hx; exact (hs.io.one p hp).2
  have hsl : s.length ≤ CAP := by have := size_len h hs.io; have := h.cap hl; omega
  -- how many ask each variable
  refine ⟨fun st => (st.1.length : Int) = n ∧ st.2.Nodup ∧ (∀ x ∈ st.2, x ∈ keys s) ∧ ∀ v, 0 ≤ v → v < n → ix st.1 v = (st.2.countP fun x => decide ((ix T.nodes x).1 = v) : Nat), fun st => left s st.2, ⟨by simp; omega, List.nodup_nil, fun _ h => (by cases h), fun v a b => by
    have : v.toNat < n.toNat := by omega
    simp [ix, this]⟩, ?_⟩
  rintro ⟨c, sn⟩ ⟨c1, c2, c3, c4⟩
  dsimp only at c1 c2 c3 c4
  refine ⟨fun hall _ => ⟨⟨n0, by omega, by omega⟩, fun _ => ?_⟩, fun x e hm hk _ _ => ?_⟩
  rotate_left
  · have hx : x ∈ keys s := List.mem_map.2 ⟨_, hm, rfl⟩
    obtain ⟨k', hk'⟩ := hlive x hx
    have en := h.ent _ _ hk'
    have i2 := en.i2
    have lsn : sn.length ≤ s.length := by
      have := nodup_sub_len c2 c3; simpa [keys] using this
    have hcv := c4 k'.1 en.v0 en.vn
    have hle : (sn.countP fun x => decide ((ix T.nodes x).1 = k'.1)) ≤ sn.length := List.countP_le_length
    unfold CAP at hsl
    refine ⟨⟨by omega, en.il⟩, fun _ => ?_⟩
    rw [en.at_]
    refine ⟨⟨en.v0, by rw [c1]; exact en.vn⟩, fun _ => ⟨by rw [hcv]; unfold I64; omega, ⟨en.v0, by rw [c1]; exact en.vn⟩, ⟨by simpa using c1, List.nodup_cons.2 ⟨hk, c2⟩, fun y hy => ?_, fun v a b => ?_⟩, left_lt hm hk⟩⟩
    · rcases List.mem_cons.1 hy with rfl | hy
      · exact hx
      · exact c3 y hy
    · (try dsimp only)
      rw [ix_set en.v0 (by rw [c1]; exact en.vn) a, List.countP_cons, en.at_]
      by_cases e' : v = k'.1
      · subst e'; rw [if_pos rfl, hcv]; simp
      · rw [if_neg e', c4 v a b]; simp [Ne.symm e']
  -- as many as the functions say
  have hcnt : ∀ v, 0 ≤ v → v < n → ix c v = cntF order (fs.map T.F) v := fun v a b => by
    have hsz := hs.sizeList h hl hf
    rw [hsz.cnt v, c4 v a b, List.countP_map]
    have hp : sn.Perm (keys s) := (List.perm_ext_iff_of_nodup c2 hs.io.nd).2 fun y => ⟨c3 y, fun hy => by obtain ⟨p, hp, rfl⟩ := List.mem_map.1 hy; exact hall p hp⟩
    rw [hp.countP_eq]
    congr 1
    refine List.countP_congr fun y hy => ?_
    obtain ⟨k', hk'⟩ := hlive y hy
    have en := h.ent _ _ hk'
    simp only [Function.comp_apply, decide_eq_true_iff]
    rw [top_node h hl en (kn_live ⟨_, hk'⟩), en.at_]
    exact ⟨fun e => by rw [e], fun e => Option.some.inj e⟩
  rw [List.length_replicate, hnn]
  refine ⟨fun st => 0 ≤ st.2 ∧ st.2 ≤ n ∧ st.1 = rg 0 st.2 ++ List.replicate (n - st.2).toNat 0, fun st => (n - st.2).toNat, ⟨Int.le_refl 0, n0, by simp [rg]⟩, ?_⟩
  rintro ⟨vars, x⟩ ⟨x0, xn, hvars⟩
  dsimp only at x0 xn hvars
  subst hvars
  dsimp only
  refine ⟨fun hlt => ⟨⟨x0, by rw [List.length_append, rg_length, List.length_replicate]; omega⟩, by unfold I64; omega, ⟨by omega, by omega, rg_set x0 hlt⟩, by omega⟩, fun hge => ?_⟩
  have hxn : x = n := by omega
  subst hxn
  have hz : (x - x).toNat = 0 := by omega
  rw [hz, List.replicate_zero, List.append_nil]
  refine SortSF_ok n0 n9 c1 fun vs hsrt hvl => ?_
  have hsrt' : Srt (fun v => cntF order (fs.map T.F) v) x vs := by
    refine ⟨?_, hsrt.mem⟩
    refine hsrt.pw.imp_of_mem fun {a b} ha hb hab => ?_
    have a' := (hsrt.mem a).1 ha; have b' := (hsrt.mem b).1 hb
    unfold Bf at hab ⊢
    rw [hcnt a a'.1 a'.2, hcnt b b'.1 b'.2] at hab; exact hab
  clear hsrt hcnt hall c4 c3 c2 c1 hnn
  -- the nodes that stay
  refine ⟨fun st => (∀ i, i ∈ keys st.1 ↔ ∃ k, (k, i) ∈ T.ms ∧ k ∈ st.2), fun st => left T.ms st.2, fun i => by simp [keys], ?_⟩
  rintro ⟨old, sn⟩ o1
  dsimp only at o1
  refine ⟨fun hall _ => ?_, fun key e hm hk _ _ => ⟨fun i => ?_, left_lt hm hk⟩⟩
  rotate_left
  · (try dsimp only)
    have : i ∈ keys (mset old e 1) ↔ i ∈ keys old ∨ i = e := by
      have : ∀ (m : List (Int × Int)) (f : Int), i ∈ keys (mset m f 1) ↔ i ∈ keys m ∨ i = f := by
        intro m f
        induction m with
        | nil => simp [keys, mset]
        | cons p m ih =>
          unfold mset
          split
          · rename_i e; subst e; simp [keys]; exact fun h => .inl h
          · unfold keys at ih ⊢; simp only [List.map_cons, List.mem_cons, ih]; constructor
            · rintro (h | h | h)
              · exact .inl (.inl h)
              · exact .inl (.inr h)
              · exact .inr h
            · rintro ((h | h) | h)
              · exact .inl h
              · exact .inr (.inl h)
              · exact .inr (.inr h)
      exact this _ _
    rw [this, o1 i]
    constructor
    · rintro (⟨k', a, b⟩ | rfl)
      · exact ⟨k', a, List.mem_cons_of_mem _ b⟩
      · exact ⟨key, hm, by simp⟩
    · rintro ⟨k', a, b⟩
      rcases List.mem_cons.1 b with rfl | b
      · right
        have m1 := mfind_of_mem h.keys a
        rw [mfind_of_mem h.keys hm] at m1
        exact (Option.some.inj m1).symm
      · exact .inl ⟨k', a, b⟩
  have hold : ∀ i, i ∈ keys old ↔ T.live i := fun i => by
    rw [o1 i]; exact ⟨fun ⟨k', a, _⟩ => ⟨k', a⟩, fun ⟨k', a⟩ => ⟨k', a, hall _ a⟩⟩
  clear hall o1
  -- variable by variable
  refine ⟨fun st => 0 ≤ st.2.2.2.2.2.2 ∧ st.2.2.2.2.2.2 ≤ x ∧ ∃ U, st.1 = U.nodes ∧ st.2.1 = U.free ∧ st.2.2.1 = U.ms ∧ st.2.2.2.2.2.1 = U.memo ∧ Gone x G T st.2.2.2.1 st.2.2.2.2.1 U ∧ st.2.2.2.1 = (vs.take st.2.2.2.2.2.2.toNat).foldl (siftVar (fs.map T.F)) order,
    fun st => (x - st.2.2.2.2.2.2).toNat, ⟨Int.le_refl 0, n0, T, rfl, rfl, rfl, rfl, ⟨h, hl, fun _ h => h, fun _ _ => rfl⟩, rfl⟩, ?_⟩
  rintro ⟨nodes, free, ms, o, lv, memo, q⟩ ⟨q0, qn, U, e1, e2, e3, e4, hU, ho⟩
  dsimp only at q0 qn e1 e2 e3 e4 hU ho
  subst e1 e2 e3 e4
  dsimp only
  rw [hvl]
  refine ⟨fun hlt => ⟨⟨q0, by rw [hvl]; exact hlt⟩, fun _ => ?_⟩, fun hge => ?_⟩
  rotate_left
  · have : vs.take q.toNat = vs := List.take_of_length_le (by omega)
    rw [this] at ho
    exact k U o lv vs hU hsrt' ho
  have hv := ix_get (xs := vs) q0 (by omega)
  generalize hve : ix vs q = v at hv ⊢
  have hvr := (hsrt'.mem v).1 (List.mem_of_getElem? hv)
  have hi := ins_of hU.ok.ord hvr.1 hvr.2
  generalize hrest : wout o v = rest at hi
  have hnr : v ∉ rest := by rw [← hrest]; exact wout_notin
  have hrl : (rest.length : Int) + 1 = x := by omega
  have llen : ∀ {o l : List Int} {U : Tb}, Gone x G T o l U → (l.length : Int) = x := fun hU => hU.ok.ord.ll
  have olen : ∀ {o l : List Int} {U : Tb}, Gone x G T o l U → (o.length : Int) = x := fun hU => hU.ok.ord.lo
  -- up to the top
  refine ⟨fun st => ∃ (U : Tb) (p : Nat), st.1 = U.nodes ∧ st.2.1 = U.free ∧ st.2.2.1 = U.ms ∧ st.2.2.2.2.2 = U.memo ∧ Gone x G T st.2.2.2.1 st.2.2.2.2.1 U ∧ p ≤ rest.length ∧ st.2.2.2.1 = ins rest v p, fun st => (ix st.2.2.2.2.1 v).toNat, ⟨U, (ix lv v).toNat, rfl, rfl, rfl, rfl, hU, ?_, hi.1⟩, ?_⟩
  · have := hU.ok.ord.lv v hvr.1 hvr.2; omega
  rintro ⟨nodes, free, ms, o1, l1, memo⟩ ⟨U1, p, e1, e2, e3, e4, hU1, hp, ho1⟩
  dsimp only at e1 e2 e3 e4 hU1 ho1
  subst e1 e2 e3 e4
  dsimp only
  have hlv1 := lv_ins hU1.ok.ord ho1 hp
  refine ⟨⟨hvr.1, by rw [llen hU1]; exact hvr.2⟩, fun _ => ⟨fun hpos => ⟨⟨hvr.1, by rw [llen hU1]; exact hvr.2⟩, fun _ => ⟨by rw [hlv1]; unfold I64; omega, ?_⟩⟩, fun hnp => ?_⟩⟩
  · rw [hlv1] at hpos ⊢
    obtain ⟨p, rfl⟩ : ∃ p', p = p' + 1 := ⟨p - 1, by omega⟩
    have hpe : ((p + 1 : Nat) : Int) - 1 = p := by omega
    rw [hpe]
    refine hU1.swap (by omega) (by omega) fun U2 hU2 => ?_
    have ho2 : swO o1 (p : Int) = ins rest v p := by rw [ho1]; exact (ins_up (by omega)).1
    have hlv2 := lv_ins hU2.ok.ord ho2 (by omega)
    exact ⟨⟨U2, p, rfl, rfl, rfl, rfl, hU2, by omega, ho2⟩, by (try dsimp only); rw [hlv2]; omega⟩
  have hp0 : p = 0 := by rw [hlv1] at hnp; omega
  subst hp0
  -- the sizes, from the top down
  let g : Nat → Nat := fun p => szF (ins rest v p) (fs.map T.F)
  refine hU1.size hf ?_
  rw [ho1]
  show VLoop _ _
  refine ⟨fun st => ∃ (U : Tb) (p : Nat), st.1 = U.nodes ∧ st.2.1 = U.free ∧ st.2.2.1 = U.ms ∧ st.2.2.2.2.2.1 = U.memo ∧ Gone x G T st.2.2.2.1 st.2.2.2.2.1 U ∧ p ≤ rest.length ∧ st.2.2.2.1 = ins rest v p ∧ st.2.2.2.2.2.2.1 = (am g p : Nat) ∧ st.2.2.2.2.2.2.2 = (g (am g p) : Nat), fun st => (x - ix st.2.2.2.2.1 v).toNat, ⟨U1, 0, rfl, rfl, rfl, rfl, ho1 ▸ hU1, Nat.zero_le _, rfl, rfl, rfl⟩, ?_⟩
  rintro ⟨nodes, free, ms, o2, l2, memo, best, least⟩ ⟨U2, p, e1, e2, e3, e4, hU2, hp, ho2, hb, hle⟩
  dsimp only at e1 e2 e3 e4 hU2 ho2 hb hle
  subst e1 e2 e3 e4 hb hle
  dsimp only
  have hlv2 := lv_ins hU2.ok.ord ho2 hp
  refine ⟨⟨hvr.1, by rw [llen hU2]; exact hvr.2⟩, fun _ => ⟨by rw [hlv2]; unfold I64; omega, fun _ => ⟨fun hdn => ⟨⟨hvr.1, by rw [llen hU2]; exact hvr.2⟩, fun _ => ?_⟩, fun hbot => ?_⟩⟩⟩
  · rw [hlv2, olen hU2] at hdn
    rw [hlv2]
    refine hU2.swap (by omega) (by omega) fun U3 hU3 => ?_
    have ho3 : swO o2 (p : Int) = ins rest v (p + 1) := by rw [ho2]; exact (ins_up (by omega)).2
    have hlv3 := lv_ins hU3.ok.ord ho3 (by omega)
    refine hU3.size hf ?_
    rw [ho3] at hU3 ⊢
    have hg : szF (ins rest v (p + 1)) (fs.map T.F) = g (p + 1) := rfl
    rw [hg]
    refine ⟨fun hless => ⟨⟨hvr.1, by rw [llen hU3]; exact hvr.2⟩, fun _ => ⟨⟨U3, p + 1, rfl, rfl, rfl, rfl, hU3, by omega, rfl, ?_, ?_⟩, by (try dsimp only); rw [hlv3]; omega⟩⟩, fun hnl => ⟨⟨U3, p + 1, rfl, rfl, rfl, rfl, hU3, by omega, rfl, ?_, ?_⟩, by (try dsimp only); rw [hlv3]; omega⟩⟩
    · (try dsimp only); rw [hlv3]; have : g (p + 1) < g (am g p) := by omega
      simp [am, this]
    · (try dsimp only); have : g (p + 1) < g (am g p) := by omega
      simp [am, this]
    · (try dsimp only); have : ¬ g (p + 1) < g (am g p) := by omega
      simp [am, this]
    · (try dsimp only); have : ¬ g (p + 1) < g (am g p) := by omega
      simp [am, this]
  rw [hlv2, olen hU2] at hbot
  have hpr : p = rest.length := by omega
  subst hpr
  have hbest := am_le (g := g) rest.length
  -- up to the best
  refine ⟨fun st => ∃ (U : Tb) (p : Nat), st.1 = U.nodes ∧ st.2.1 = U.free ∧ st.2.2.1 = U.ms ∧ st.2.2.2.2.2 = U.memo ∧ Gone x G T st.2.2.2.1 st.2.2.2.2.1 U ∧ p ≤ rest.length ∧ am g rest.length ≤ p ∧ st.2.2.2.1 = ins rest v p, fun st => (ix st.2.2.2.2.1 v).toNat, ⟨U2, rest.length, rfl, rfl, rfl, rfl, hU2, hp, hbest, ho2⟩, ?_⟩
  rintro ⟨nodes, free, ms, o3, l3, memo⟩ ⟨U3, p, e1, e2, e3, e4, hU3, hp3, hbp, ho3⟩
  dsimp only at e1 e2 e3 e4 hU3 ho3
  subst e1 e2 e3 e4
  dsimp only
  have hlv3 := lv_ins hU3.ok.ord ho3 hp3
  refine ⟨⟨hvr.1, by rw [llen hU3]; exact hvr.2⟩, fun _ => ⟨fun hpos => ⟨⟨hvr.1, by rw [llen hU3]; exact hvr.2⟩, fun _ => ⟨by rw [hlv3]; unfold I64; omega, ?_⟩⟩, fun hnp => ?_⟩⟩
  · rw [hlv3] at hpos ⊢
    obtain ⟨p, rfl⟩ : ∃ p', p = p' + 1 := ⟨p - 1, by omega⟩
    have hpe : ((p + 1 : Nat) : Int) - 1 = p := by omega
    rw [hpe]
    refine hU3.swap (by omega) (by omega) fun U4 hU4 => ?_
    have ho4 : swO o3 (p : Int) = ins rest v p := by rw [ho3]; exact (ins_up (by omega)).1
    have hlv4 := lv_ins hU4.ok.ord ho4 (by omega)
    exact ⟨⟨U4, p, rfl, rfl, rfl, rfl, hU4, by omega, by omega, ho4⟩, by (try dsimp only); rw [hlv4]; omega⟩
  rw [hlv3] at hnp
  have hpb : p = am g rest.length := by omega
  subst hpb
  -- what is not below the nodes that stay is forgotten
  refine ⟨fun st => st.2.Nodup ∧ (∀ i ∈ st.2, i ∈ keys old) ∧ AllOk U3 st.2.reverse st.1, fun st => left old st.2, ⟨List.nodup_nil, fun _ h => (by cases h), AllOk.nil⟩, ?_⟩
  rintro ⟨keep, sn⟩ ⟨s1, s2, s3⟩
  dsimp only at s1 s2 s3
  refine ⟨fun hall => ?_, fun y e hm hk _ _ => ?_⟩
  · show V_forgetS _ _ _ _ _ _ _ _
    rw [forgetS_eq]
    refine forgetK_ok hU3.ok hU3.lim s3.io s3.dn fun U4 ok4 en eF el em hms => ⟨by unfold I64; omega, ⟨by (try dsimp only); omega, by (try dsimp only); omega, U4, en.symm, rfl, rfl, rfl, ⟨ok4, el, fun i hi => ?_, fun i hi => by rw [eF]; exact hU3.F i hi⟩, ?_⟩, by (try dsimp only); omega⟩
    · have h3 := hU3.kn i hi
      rcases hi with rfl | rfl | hi | hi
      · exact kn_zero
      · exact kn_one
      · have hio := (hold i).2 hi
        obtain ⟨pp, hpp, he⟩ := List.mem_map.1 hio
        have hin := hall pp hpp
        have e' : pp.1 = i := he
        rw [e'] at hin
        rcases hU3.ok.kn_case hU3.lim h3 with rfl | rfl | ⟨k', a, b⟩
        · exact kn_zero
        · exact kn_one
        · have := (s3.has i (List.mem_reverse.2 hin)).resolve_left (by have := b.i2; omega)
          exact kn_live ⟨k', (hms _).2 ⟨a, this⟩⟩
      · rw [hl] at hi; cases hi
    · (try dsimp only)
      have hq1 : (q + 1).toNat = q.toNat + 1 := by omega
      rw [hq1, take_cons hv, List.foldl_append, ← ho, ho3]
      show ins rest v (am g rest.length) = siftVar (fs.map T.F) o v
      unfold siftVar
      rw [hrest]
  · have hy : y ∈ keys old := List.mem_map.2 ⟨_, hm, rfl⟩
    have ky := hU3.kn y (kn_live ((hold y).1 hy))
    refine ⟨10, below_ok hU3.ok hU3.lim 10 ky (fuel_ok hU3.ok hU3.lim ky) s3.io fun s' a b c d e' => ⟨⟨List.nodup_cons.2 ⟨hk, s1⟩, fun i hi => ?_, ?_⟩, left_lt hm hk⟩⟩
    · rcases List.mem_cons.1 hi with rfl | hi
      · exact hy
      · exact s2 i hi
    · (try dsimp only); rw [List.reverse_cons]; exact s3.more a b c d e'
end Go.Vc
