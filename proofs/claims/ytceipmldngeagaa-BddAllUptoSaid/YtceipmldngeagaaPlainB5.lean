/- Diagrams in plain words, part 5: two neighbours in the order change places. No program in sight. -/
import Derived.Test.YtceipmldngeagaaPlainB4
set_option linter.unusedVariables false
set_option linter.unusedSimpArgs false
namespace Go.Vc
variable {n : Int} {order level : List Int} {G : List Fn} {T : Tb}
theorem Keep_ok (h : Ok n order level G T) (hl : T.lim = []) {fs : List Int} (hf : ∀ f ∈ fs, T.kn f) {Q : List Int → Mp → Mp → Prop}
    (k : ∀ s T', AllOk T fs s → Ok n order level G T' → T'.nodes = T.nodes → T'.F = T.F → T'.lim = [] → T'.memo = [] → (∀ p, p ∈ T'.ms ↔ p ∈ T.ms ∧ p.2 ∈ keys s) → Q T'.free T'.ms T'.memo) : V_Keep T.nodes T.free T.ms order level T.memo fs Q :=
  all_ok h hl hf fun s hs => forgetK_ok h hl hs.io hs.dn fun T' a b c d e f => k s T' hs a b c d e f
theorem forgetS_eq : @V_forgetS = @V_forgetK := rfl
/-- Levels that change places. -/
def sw (L d : Int) : Int := if d = L then L + 1 else if d = L + 1 then L else d
def swO (order : List Int) (L : Int) : List Int := (order.set L.toNat (ix order (L + 1))).set (L + 1).toNat (ix order L)
def swL (order level : List Int) (L : Int) : List Int := (level.set (ix order L).toNat (L + 1)).set (ix order (L + 1)).toNat L
theorem Ord.ne (h : Ord n order level) {L : Int} (h0 : 0 ≤ L) (h1 : L + 1 < n) : ix order L ≠ ix order (L + 1) := fun e => by
  have a := (h.ol L h0 (by omega)).2.2; have b := (h.ol (L + 1) (by omega) h1).2.2
  rw [e, b] at a; omega
theorem swO_ix (h : Ord n order level) {L j : Int} (h0 : 0 ≤ L) (h1 : L + 1 < n) (hj : 0 ≤ j) : ix (swO order L) j = ix order (sw L j) := by
  have hl := h.lo
  unfold swO
  rw [ix_set (by omega) (by rw [List.length_set]; omega) hj, ix_set h0 (by omega) hj]
  unfold sw
  by_cases e1 : j = L
  · subst e1; rw [if_neg (by omega), if_pos rfl, if_pos rfl]
  · by_cases e2 : j = L + 1
    · rw [if_pos e2, if_neg e1, if_pos e2]
    · rw [if_neg e2, if_neg e1, if_neg e1, if_neg e2]
theorem swL_ix (h : Ord n order level) {L v : Int} (h0 : 0 ≤ L) (h1 : L + 1 < n) (hv : 0 ≤ v) (hn : v < n) : ix (swL order level L) v = sw L (ix level v) := by
  have hl := h.ll
  have a := h.ol L h0 (by omega); have b := h.ol (L + 1) (by omega) h1; have c := h.lv v hv hn
  have ne := h.ne h0 h1
  unfold swL
  rw [ix_set b.1 (by rw [List.length_set]; omega) hv, ix_set a.1 (by omega) hv]
  unfold sw
  by_cases e2 : v = ix order (L + 1)
  · have : ix level v = L + 1 := by rw [e2]; exact b.2.2
    rw [if_pos e2, if_neg (by omega), if_pos this]
  · by_cases e1 : v = ix order L
    · have : ix level v = L := by rw [e1]; exact a.2.2
      rw [if_neg e2, if_pos e1, if_pos this]
    · have q1 : ix level v ≠ L := fun e => e1 (by rw [← c.2.2, e])
      have q2 : ix level v ≠ L + 1 := fun e => e2 (by rw [← c.2.2, e])
      rw [if_neg e2, if_neg e1, if_neg q1, if_neg q2]
theorem sw_sw (L d : Int) : sw L (sw L d) = d := by unfold sw; repeat (first | omega | split)
theorem Ord.swap (h : Ord n order level) {L : Int} (h0 : 0 ≤ L) (h1 : L + 1 < n) : Ord n (swO order L) (swL order level L) := by
  have rng : ∀ d, 0 ≤ d → d < n → 0 ≤ sw L d ∧ sw L d < n := fun d a b => by unfold sw; repeat (first | omega | split)
  refine ⟨h.n0, h.n9, by unfold swO; simp; exact h.lo, by unfold swL; simp; exact h.ll, fun l a b => ?_, fun v a b => ?_⟩
  · rw [swO_ix h h0 h1 a]
    have r := rng l a b
    have c := h.ol (sw L l) r.1 r.2
    refine ⟨c.1, c.2.1, ?_⟩
    rw [swL_ix h h0 h1 c.1 c.2.1, c.2.2, sw_sw]
  · rw [swL_ix h h0 h1 a b]
    have c := h.lv v a b
    have r := rng _ c.1 c.2.1
    exact ⟨r.1, r.2, by rw [swO_ix h h0 h1 r.1, sw_sw, c.2.2]⟩
theorem dp_sw (h : Ok n order level G T) (hl : T.lim = []) {L : Int} (h0 : 0 ≤ L) (h1 : L + 1 < n) {i : Int} (hi : T.kn i) : dp n (swL order level L) T.nodes i = sw L (dp n level T.nodes i) := by
  rcases h.kn_case hl hi with rfl | rfl | ⟨k, k1, k2⟩
  · rw [dp0, dp0]; unfold sw; rw [if_neg (by omega), if_neg (by omega)]
  · rw [dp1, dp1]; unfold sw; rw [if_neg (by omega), if_neg (by omega)]
  · rw [k2.dp]
    unfold dp; rw [if_neg (by have := k2.i2; omega), k2.at_]
    exact swL_ix h.ord h0 h1 k2.v0 k2.vn
theorem dp_at (h : Ok n order level G T) (hl : T.lim = []) {j : Int} (hj0 : 0 ≤ j) (hj : j < n) {f : Int} (hf : T.kn f) : (1 < f ∧ (ix T.nodes f).1 = ix order j) ↔ dp n level T.nodes f = j := by
  rcases h.kn_case hl hf with rfl | rfl | ⟨k, k1, k2⟩
  · rw [dp0]; omega
  · rw [dp1]; omega
  · rw [k2.dp, k2.at_]
    have := k2.i2; have lv := h.ord.lv k.1 k2.v0 k2.vn
    constructor
    · rintro ⟨_, e⟩; rw [e]; exact (h.ord.ol j hj0 hj).2.2
    · intro e; exact ⟨by omega, by rw [← e]; exact lv.2.2.symm⟩
theorem asks_ok {order' level' : List Int} {nodes : Nds} {free : List Int} {ms memo : Mp} {f v : Int} (hf : 1 < f → f < nodes.length) {Q : Bool → Prop} (k : Q (decide (1 < f ∧ (ix nodes f).1 = v))) : V_asks nodes free ms order' level' memo f v Q := by
  refine ⟨fun b => b = decide (1 < f ∧ (ix nodes f).1 = v), fun b hb => by rw [hb]; exact k, fun hlt => ⟨⟨by omega, hf hlt⟩, fun _ => by simp [hlt]⟩, fun hle => by simp [hle]⟩
theorem under_ok {order' level' : List Int} {nodes : Nds} {free : List Int} {ms memo : Mp} {f v : Int} (hf : 1 < f → f < nodes.length) {Q : Int → Int → Prop} (k : if 1 < f ∧ (ix nodes f).1 = v then Q (ix nodes f).2.1 (ix nodes f).2.2 else Q f f) : V_under nodes free ms order' level' memo f v Q := by
  refine asks_ok hf ⟨fun ht => ?_, fun ht => ?_⟩
  · have ht : 1 < f ∧ (ix nodes f).1 = v := of_decide_eq_true ht
    rw [if_pos ht] at k
    exact ⟨⟨by omega, hf ht.1⟩, fun _ => ⟨⟨by omega, hf ht.1⟩, fun _ => k⟩⟩
  · rw [if_neg (of_decide_eq_false ht)] at k; exact k
/-- Between: the nodes 'c' are turned one by one, the first 'x' are. -/
structure Sw (n : Int) (order level : List Int) (G : List Fn) (T : Tb) (L : Int) (c : List Int) (x : Nat) (U : Tb) : Prop where
  ok : Ok n (swO order L) (swL order level L) G U
  lim : U.lim = c.drop x
  memo : U.memo = T.memo
  kn : ∀ i, T.kn i → U.kn i
  F : ∀ i, T.kn i → U.F i = T.F i
  nd : ∀ i, T.kn i → i ∉ c.take x → ix U.nodes i = ix T.nodes i
  new : ∀ k i, (k, i) ∈ U.ms → ¬ T.kn i → k.1 = ix order L ∧ T.kn k.2.1 ∧ T.kn k.2.2 ∧ L + 1 < dp n level T.nodes k.2.1 ∧ L + 1 < dp n level T.nodes k.2.2
  keep : ∀ k i, (k, i) ∈ T.ms → i ∉ c → (k, i) ∈ U.ms
  noy : ∀ k i, (k, i) ∈ U.ms → k.1 = ix order (L + 1) → k.2.1 ∉ c.drop x ∧ k.2.2 ∉ c.drop x
/-- What the nodes that are turned are. -/
structure Ask (n : Int) (order level : List Int) (T : Tb) (L : Int) (c : List Int) : Prop where
  h0 : 0 ≤ L
  h1 : L + 1 < n
  nd : c.Nodup
  mem : ∀ i, i ∈ c ↔ ∃ k, (k, i) ∈ T.ms ∧ k.1 = ix order L ∧ (dp n level T.nodes k.2.1 = L + 1 ∨ dp n level T.nodes k.2.2 = L + 1)
theorem Ask.dp (h : Ok n order level G T) (hl : T.lim = []) {L : Int} {c : List Int} (ha : Ask n order level T L c) {i : Int} (hi : i ∈ c) : T.live i ∧ dp n level T.nodes i = L := by
  obtain ⟨k, k1, k2, _⟩ := (ha.mem i).1 hi
  refine ⟨⟨k, k1⟩, ?_⟩
  rw [(h.ent _ _ k1).dp, k2]; exact (h.ord.ol L ha.h0 (by have := ha.h1; omega)).2.2
theorem Sw.deep (h : Ok n order level G T) (hl : T.lim = []) {L : Int} {c : List Int} {x : Nat} {U : Tb} (ha : Ask n order level T L c) (s : Sw n order level G T L c x U) {i : Int} (hi : T.kn i) (hd : L + 1 < dp n level T.nodes i) :
    i ∉ c ∧ ix U.nodes i = ix T.nodes i ∧ dp n (swL order level L) U.nodes i = dp n level T.nodes i := by
  have hc : i ∉ c := fun hc => by have := (Ask.dp h hl ha hc).2; omega
  have hn := s.nd i hi fun hm => hc (List.take_subset _ _ hm)
  refine ⟨hc, hn, ?_⟩
  have : dp n (swL order level L) U.nodes i = dp n (swL order level L) T.nodes i := by unfold Go.Vc.dp; rw [hn]
  rw [this, dp_sw h hl ha.h0 ha.h1 hi]; unfold sw; rw [if_neg (by omega), if_neg (by omega)]
theorem Sw.inj (h : Ok n order level G T) (hl : T.lim = []) {L : Int} {c : List Int} {x : Nat} {U : Tb} (ha : Ask n order level T L c) (s : Sw n order level G T L c x U) {i j : Int} (hi : U.live i ∨ i ∈ U.lim) (hj : U.live j ∨ j ∈ U.lim) (e : U.F i = U.F j) : i = j := by
  have hx := h.ord.ol L ha.h0 (by have := ha.h1; omega)
  have hy := h.ord.ol (L + 1) (by have := ha.h0; omega) ha.h1
  have ne := h.ord.ne ha.h0 ha.h1
  have h0 := ha.h0; have h1 := ha.h1
  have limk : ∀ {i}, i ∈ U.lim → T.kn i := fun {i} hm => by rw [s.lim] at hm; exact kn_live (Ask.dp h hl ha (List.drop_subset _ _ hm)).1
  -- a new node against any
  have one : ∀ {i j : Int}, U.live i → ¬ T.kn i → (U.live j ∨ j ∈ U.lim) → U.F i = U.F j → i = j := by
    rintro i j ⟨k, hk⟩ hni hj e
    obtain ⟨n1, n2, n3, n4, n5⟩ := s.new k i hk hni
    have en := s.ok.ent k i hk
    have eF : U.F i = sel (ix order L) (T.F k.2.1) (T.F k.2.2) := by rw [en.F, n1, s.F _ n2, s.F _ n3]
    have il : ∀ v, 0 ≤ v → v < n → ix level v ≤ L + 1 → ∀ b, cof (T.F k.2.1) v b = T.F k.2.1 := fun v a b d => h.ind hl n2 a b (by omega)
    have iu : ∀ v, 0 ≤ v → v < n → ix level v ≤ L + 1 → ∀ b, cof (T.F k.2.2) v b = T.F k.2.2 := fun v a b d => h.ind hl n3 a b (by omega)
    have cx : ∀ b, cof (U.F i) (ix order L) b = if b then T.F k.2.2 else T.F k.2.1 := fun b => by
      rw [eF]; exact cof_sel (il _ hx.1 hx.2.1 (by omega)) (iu _ hx.1 hx.2.1 (by omega)) b
    have c0 := cx false; have c1 := cx true
    simp only [Bool.false_eq_true, if_false, if_true] at c0 c1
    have hne : T.F k.2.1 ≠ T.F k.2.2 := fun e => en.ne (h.inj hl n2 n3 e)
    by_cases kj : T.kn j
    · rw [s.F j kj] at e
      rw [e] at c0 c1 cx eF
      rcases h.kn_case hl kj with rfl | rfl | ⟨k', k1', k2'⟩
      · rw [h.f0] at c0 c1; exact absurd (c0.symm.trans c1) hne
      · rw [h.f1] at c0 c1; exact absurd (c0.symm.trans c1) hne
      · have lv := h.ord.lv k'.1 k2'.v0 k2'.vn
        have hg := h.hangs hl k2'
        by_cases e1 : k'.1 = ix order L
        · have d0 := h.cofs hl k2' false; have d1 := h.cofs hl k2' true
          simp only [Bool.false_eq_true, if_false, if_true] at d0 d1
          rw [e1] at d0 d1
          have q0 := h.inj hl k2'.kl n2 (d0.symm.trans c0)
          have q1 := h.inj hl k2'.ku n3 (d1.symm.trans c1)
          have hkk : k' = k := by obtain ⟨a, b, d⟩ := k; obtain ⟨a', b', d'⟩ := k'; simp_all
          subst hkk
          have hjc : j ∉ c := fun hc => by
            obtain ⟨k3, m1, m2, m3⟩ := (ha.mem j).1 hc
            have : k3 = k' := by rw [← (h.ent _ _ m1).at_, ← k2'.at_]
            subst this; omega
          have m1 := mfind_of_mem s.ok.keys (s.keep _ _ k1' hjc)
          rw [mfind_of_mem s.ok.keys hk] at m1
          exact Option.some.inj m1
        · rcases Int.lt_or_le (L + 1) (ix level k'.1) with hlt | hge
          · have : ∀ b, cof (T.F j) (ix order L) b = T.F j := h.ind hl kj hx.1 hx.2.1 (by rw [k2'.dp]; omega)
            rw [this] at c0 c1; exact absurd (c0.symm.trans c1) hne
          · exfalso
            refine hg ?_
            rw [eF, cof_sel_ne e1, cof_sel_ne e1, il _ k2'.v0 k2'.vn hge, iu _ k2'.v0 k2'.vn hge, il _ k2'.v0 k2'.vn hge, iu _ k2'.v0 k2'.vn hge]
    · rcases hj with ⟨k', hk'⟩ | hj
      · obtain ⟨n1', n2', n3', n4', n5'⟩ := s.new k' j hk' kj
        have en' := s.ok.ent k' j hk'
        have d0 : cof (U.F j) (ix order L) false = T.F k'.2.1 := by
          rw [en'.F, n1', s.F _ n2', s.F _ n3', cof_sel (h.ind hl n2' hx.1 hx.2.1 (by omega)) (h.ind hl n3' hx.1 hx.2.1 (by omega))]; rfl
        have d1 : cof (U.F j) (ix order L) true = T.F k'.2.2 := by
          rw [en'.F, n1', s.F _ n2', s.F _ n3', cof_sel (h.ind hl n2' hx.1 hx.2.1 (by omega)) (h.ind hl n3' hx.1 hx.2.1 (by omega))]; rfl
        rw [e] at c0 c1
        have q0 := h.inj hl n2' n2 (d0.symm.trans c0)
        have q1 := h.inj hl n3' n3 (d1.symm.trans c1)
        have hkk : k' = k := by obtain ⟨a, b, d⟩ := k; obtain ⟨a', b', d'⟩ := k'; simp_all
        subst hkk
        have m1 := mfind_of_mem s.ok.keys hk'
        rw [mfind_of_mem s.ok.keys hk] at m1
        exact Option.some.inj m1
      · exact absurd (limk hj) kj
  by_cases ki : T.kn i
  · by_cases kj : T.kn j
    · rw [s.F i ki, s.F j kj] at e; exact h.inj hl ki kj e
    · rcases hj with hj | hj
      · exact (one hj kj hi e.symm).symm
      · exact absurd (limk hj) kj
  · rcases hi with hi | hi
    · exact one hi ki hj e
    · exact absurd (limk hi) ki
theorem Sw.cap (h : Ok n order level G T) (hl : T.lim = []) {L : Int} {c : List Int} {x : Nat} {U : Tb} (ha : Ask n order level T L c) (s : Sw n order level G T L c x U) : U.ms.length + U.lim.length ≤ CAP := by
  have hval : ∀ {p q : (Int × Int × Int) × Int}, p ∈ U.ms → q ∈ U.ms → p.2 = q.2 → p.1 = q.1 := fun {p q} hp hq e => by
    rw [← (s.ok.ent p.1 p.2 hp).at_, ← (s.ok.ent q.1 q.2 hq).at_, e]
  have hv : (U.ms.map (·.2) ++ U.lim).Nodup := by
    rw [List.nodup_append]
    refine ⟨?_, s.ok.limn, fun a ha b hb e => ?_⟩
    · have hk := s.ok.keys
      have key : ∀ l : Mp, (l.map (·.1)).Nodup → (∀ p ∈ l, p ∈ U.ms) → (l.map (·.2)).Nodup := by
        intro l
        induction l with
        | nil => intro _ _; simp
        | cons p l ih =>
          intro h1 h2
          rw [List.map_cons, List.nodup_cons] at h1 ⊢
          refine ⟨fun hm => ?_, ih h1.2 fun q hq => h2 q (List.mem_cons_of_mem _ hq)⟩
          obtain ⟨q, hq, hqe⟩ := List.mem_map.1 hm
          exact h1.1 (List.mem_map.2 ⟨q, hq, hval (h2 q (List.mem_cons_of_mem _ hq)) (h2 p (by simp)) hqe⟩)
      exact key U.ms hk fun p hp => hp
    · subst e
      obtain ⟨p, hp, rfl⟩ := List.mem_map.1 ha
      exact (s.ok.limr _ hb).2.2 ⟨p.1, hp⟩
  have hall : ∀ i ∈ U.ms.map (·.2) ++ U.lim, U.live i ∨ i ∈ U.lim := fun i hi => by
    rcases List.mem_append.1 hi with hi | hi
    · obtain ⟨p, hp, rfl⟩ := List.mem_map.1 hi; exact .inl ⟨p.1, hp⟩
    · exact .inr hi
  have hfn : ((U.ms.map (·.2) ++ U.lim).map U.F).Nodup := by
    have key : ∀ l : List Int, l.Nodup → (∀ i ∈ l, U.live i ∨ i ∈ U.lim) → (l.map U.F).Nodup := by
      intro l
      induction l with
      | nil => intro _ _; simp
      | cons p l ih =>
        intro h1 h2
        rw [List.nodup_cons] at h1
        rw [List.map_cons, List.nodup_cons]
        refine ⟨fun hm => ?_, ih h1.2 fun q hq => h2 q (List.mem_cons_of_mem _ hq)⟩
        obtain ⟨q, hq, hqe⟩ := List.mem_map.1 hm
        have := s.inj h hl ha (h2 q (List.mem_cons_of_mem _ hq)) (h2 p (by simp)) hqe
        subst this; exact h1.1 hq
    exact key _ hv hall
  have := Cl.count h.ord.n0 h.gs hfn (fun f hf => by obtain ⟨p, hp, rfl⟩ := List.mem_map.1 hf; exact s.ok.cl p (hall p hp))
  rw [List.length_map, List.length_append, List.length_map] at this
  have h3 : 3 ^ n.toNat ≤ 3 ^ 9 := Nat.pow_le_pow_right (by omega) (by have := h.ord.n9; omega)
  have h4 := Nat.mul_le_mul h.gl h3
  unfold CAP; omega
/-- A node of the upper variable is made while nodes are turned. -/
theorem Sw.make (h : Ok n order level G T) (hl : T.lim = []) {L : Int} {c : List Int} {x : Nat} {U : Tb} (ha : Ask n order level T L c) (s : Sw n order level G T L c x U) {f g : Int} (kf : T.kn f) (kg : T.kn g)
    (df : L + 1 < dp n level T.nodes f) (dg : L + 1 < dp n level T.nodes g) (hc : Cl G (sel (ix order L) (T.F f) (T.F g))) {Q : Int → Nds → List Int → Mp → Prop}
    (k : ∀ r U', Sw n order level G T L c x U' → U'.kn r → U'.F r = sel (ix order L) (T.F f) (T.F g) → L + 1 ≤ dp n (swL order level L) U'.nodes r → r ∉ c → (∀ i, U.kn i → U'.kn i ∧ U'.F i = U.F i ∧ ix U'.nodes i = ix U.nodes i) → Q r U'.nodes U'.free U'.ms) :
    V_make U.nodes U.free U.ms (swO order L) (swL order level L) T.memo (ix order L) f g Q := by
  have hx := h.ord.ol L ha.h0 (by have := ha.h1; omega)
  have lx : ix (swL order level L) (ix order L) = L + 1 := by rw [swL_ix h.ord ha.h0 ha.h1 hx.1 hx.2.1, hx.2.2]; unfold sw; rw [if_pos rfl]
  have hF : sel (ix order L) (U.F f) (U.F g) = sel (ix order L) (T.F f) (T.F g) := by rw [s.F _ kf, s.F _ kg]
  have d1 := s.deep h hl ha kf df; have d2 := s.deep h hl ha kg dg
  rw [← s.memo]
  refine make_ok s.ok (s.cap h hl ha) ⟨hx.1, hx.2.1⟩ (s.kn _ kf) (s.kn _ kg) (by rw [lx, d1.2.2]; exact df) (by rw [lx, d2.2.2]; exact dg) (by rw [hF]; exact hc) fun r U' ok' ex em kr er dr hms => ?_
  have ne := h.ord.ne ha.h0 ha.h1
  refine k r U' ⟨ok', ex.lim.trans s.lim, em.trans s.memo, fun i hi => ex.kn i (s.kn i hi), fun i hi => (ex.F i (s.kn i hi)).trans (s.F i hi), fun i hi hn => (ex.nd i (s.kn i hi)).trans (s.nd i hi hn), fun key i hk hn => ?_, fun key i hk hn => ?_, fun key i hk hy => ?_⟩ kr (by rw [er, hF]) (by rw [lx] at dr; exact dr) ?_ fun i hi => ⟨ex.kn i hi, ex.F i hi, ex.nd i hi⟩
  · rcases hms with hms | ⟨hms, hnk⟩
    · rw [hms] at hk; exact s.new key i hk hn
    · rw [hms] at hk
      rcases List.mem_append.1 hk with hk | hk
      · exact s.new key i hk hn
      · simp at hk; obtain ⟨rfl, rfl⟩ := hk; exact ⟨rfl, kf, kg, df, dg⟩
  · have := s.keep key i hk hn
    rcases hms with hms | ⟨hms, _⟩
    · rw [hms]; exact this
    · rw [hms]; exact List.mem_append_left _ this
  · rcases hms with hms | ⟨hms, hnk⟩
    · rw [hms] at hk; exact s.noy key i hk hy
    · rw [hms] at hk
      rcases List.mem_append.1 hk with hk | hk
      · exact s.noy key i hk hy
      · simp at hk; obtain ⟨rfl, rfl⟩ := hk; exact absurd hy ne
  · intro hrc
    have q := Ask.dp h hl ha hrc
    -- its function does not hang on y; that of a node that is turned is not a node of x and deeper
    have kT : T.kn r := kn_live q.1
    have eF : T.F r = sel (ix order L) (T.F f) (T.F g) := by rw [← hF, ← er, ex.F _ (s.kn _ kT), s.F _ kT]
    obtain ⟨key, m1, m2, m3⟩ := (ha.mem r).1 hrc
    have en := h.ent _ _ m1
    have c0 := h.cofs hl en false; have c1 := h.cofs hl en true
    simp only [Bool.false_eq_true, if_false, if_true] at c0 c1
    rw [m2, eF, cof_sel (h.ind hl kf hx.1 hx.2.1 (by omega)) (h.ind hl kg hx.1 hx.2.1 (by omega))] at c0 c1
    simp only [Bool.false_eq_true, if_false, if_true] at c0 c1
    have q0 := h.inj hl kf en.kl c0
    have q1 := h.inj hl kg en.ku c1
    rw [← q0, ← q1] at m3; omega
end Go.Vc
