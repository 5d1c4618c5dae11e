/- Diagrams in plain words, part 2: a node is made; 'if then else' of nodes. No program in sight. -/
import Derived.Test.YtceipmldngeagaaPlainB1
set_option linter.unusedVariables false
set_option linter.unusedSimpArgs false
namespace Go.Vc
variable {n : Int} {order level : List Int} {G : List Fn} {T : Tb}
/-- A table with more nodes: what was known stays as it was. -/
structure Ext (T T' : Tb) : Prop where
  kn : ∀ i, T.kn i → T'.kn i
  F : ∀ i, T.kn i → T'.F i = T.F i
  nd : ∀ i, T.kn i → ix T'.nodes i = ix T.nodes i
  lim : T'.lim = T.lim
theorem Ext.refl (T : Tb) : Ext T T := ⟨fun _ h => h, fun _ _ => rfl, fun _ _ => rfl, rfl⟩
theorem Ext.trans {A B C : Tb} (h : Ext A B) (k : Ext B C) : Ext A C :=
  ⟨fun i hi => k.kn i (h.kn i hi), fun i hi => (k.F i (h.kn i hi)).trans (h.F i hi), fun i hi => (k.nd i (h.kn i hi)).trans (h.nd i hi), k.lim.trans h.lim⟩
theorem Ext.dp {A B : Tb} (h : Ext A B) {i : Int} (hi : A.kn i) : dp n level B.nodes i = dp n level A.nodes i := by unfold Go.Vc.dp; rw [h.nd i hi]
def Tb.put (T : Tb) (k : Int × Int × Int) (r : Int) (nodes' : Nds) (free' : List Int) : Tb :=
  { nodes := nodes', free := free', ms := T.ms ++ [(k, r)], memo := T.memo, F := fun i => if i = r then sel k.1 (T.F k.2.1) (T.F k.2.2) else T.F i, lim := T.lim }
theorem Ok.add (h : Ok n order level G T) {a l u r : Int} {nodes' : Nds} {free' : List Int} (hr2 : 2 ≤ r) (hrl : r < nodes'.length) (hrk : ¬ T.kn r) (hrn : ix nodes' r = (a, l, u))
    (hnn : ∀ i : Int, 0 ≤ i → i < T.nodes.length → i ≠ r → ix nodes' i = ix T.nodes i) (hnl : T.nodes.length ≤ nodes'.length) (hnl2 : nodes'.length ≤ CAP + 3) (hfn : free'.Nodup) (hf : ∀ i ∈ free', i ∈ T.free ∧ i ≠ r)
    (hfull : nodes'.length = 2 + (T.ms.length + 1) + T.lim.length + free'.length) (hm : mhas T.ms (a, l, u) = false) (ha : 0 ≤ a ∧ a < n) (hne : l ≠ u) (hl : T.kn l) (hu : T.kn u)
    (hdl : ix level a < dp n level T.nodes l) (hdu : ix level a < dp n level T.nodes u) (hc : Cl G (sel a (T.F l) (T.F u))) :
    Ok n order level G (T.put (a, l, u) r nodes' free') ∧ Ext T (T.put (a, l, u) r nodes' free') := by
  have hner : ∀ {i : Int}, T.kn i → i ≠ r := fun hi e => hrk (e ▸ hi)
  have live' : ∀ {i : Int}, T.live i → (T.put (a, l, u) r nodes' free').live i := fun ⟨k, hk⟩ => ⟨k, List.mem_append_left _ hk⟩
  have kn' : ∀ i, T.kn i → (T.put (a, l, u) r nodes' free').kn i := by
    rintro i (h1 | h1 | h1 | h1)
    · exact .inl h1
    · exact .inr (.inl h1)
    · exact .inr (.inr (.inl (live' h1)))
    · exact .inr (.inr (.inr h1))
  have F' : ∀ i, T.kn i → (T.put (a, l, u) r nodes' free').F i = T.F i := fun i hi => by simp [Tb.put, hner hi]
  have nd' : ∀ i, T.kn i → ix nodes' i = ix T.nodes i := fun i hi => hnn i (h.nonneg hi).1 (h.nonneg hi).2 (hner hi)
  have dp' : ∀ i, T.kn i → dp n level nodes' i = dp n level T.nodes i := fun i hi => by unfold dp; rw [nd' i hi]
  have inv : ∀ {i : Int}, (T.put (a, l, u) r nodes' free').live i → T.live i ∨ i = r := by
    rintro i ⟨k, hk⟩
    rcases List.mem_append.1 hk with hk | hk
    · exact .inl ⟨k, hk⟩
    · simp at hk; exact .inr hk.2
  have knr : ∀ {i : Int}, (T.put (a, l, u) r nodes' free').kn i → T.kn i ∨ i = r := by
    rintro i (h1 | h1 | h1 | h1)
    · exact .inl (.inl h1)
    · exact .inl (.inr (.inl h1))
    · rcases inv h1 with h1 | h1
      · exact .inl (.inr (.inr (.inl h1)))
      · exact .inr h1
    · exact .inl (.inr (.inr (.inr h1)))
  refine ⟨⟨h.ord, Nat.le_trans h.two hnl, ?_, ?_, ?_, ?_, ?_, h.limn, ?_, hfn, ?_, ?_, ?_, h.gs, h.gl, h.bs, hnl2⟩, ⟨kn', F', nd', rfl⟩⟩
  · rw [F' 0 kn_zero]; exact h.f0
  · rw [F' 1 kn_one]; exact h.f1
  · show ((T.ms ++ [((a, l, u), r)]).map (·.1)).Nodup
    rw [List.map_append, List.nodup_append]
    refine ⟨h.keys, by simp, ?_⟩
    intro x hx y hy e
    obtain ⟨p, hp, rfl⟩ := List.mem_map.1 hx
    simp at hy
    exact mhas_false hm p hp (e.trans hy)
  · intro k i hk
    rcases List.mem_append.1 hk with hk | hk
    · have e := h.ent k i hk
      have hi : T.kn i := kn_live ⟨k, hk⟩
      exact ⟨e.i2, by have := e.il; show i < (nodes'.length : Int); omega, (nd' i hi).trans e.at_, e.v0, e.vn, e.ne, kn' _ e.kl, kn' _ e.ku, by rw [show dp n level (T.put (a, l, u) r nodes' free').nodes k.2.1 = _ from dp' _ e.kl]; exact e.dl,
        by rw [show dp n level (T.put (a, l, u) r nodes' free').nodes k.2.2 = _ from dp' _ e.ku]; exact e.du, by rw [F' _ hi, F' _ e.kl, F' _ e.ku]; exact e.F⟩
    · simp at hk
      obtain ⟨rfl, rfl⟩ := hk
      exact ⟨hr2, hrl, hrn, ha.1, ha.2, hne, kn' _ hl, kn' _ hu, by rw [show dp n level (T.put (a, l, u) i nodes' free').nodes (a, l, u).2.1 = _ from dp' _ hl]; exact hdl,
        by rw [show dp n level (T.put (a, l, u) i nodes' free').nodes (a, l, u).2.2 = _ from dp' _ hu]; exact hdu, by rw [F' _ hl, F' _ hu]; simp [Tb.put]⟩
  · intro i hi
    have := h.limr i hi
    refine ⟨this.1, by show i < (nodes'.length : Int); omega, fun hv => ?_⟩
    rcases inv hv with hv | hv
    · exact this.2.2 hv
    · exact hrk (hv ▸ .inr (.inr (.inr hi)))
  · intro f g hh x hx
    obtain ⟨m1, m2, m3, m4, m5⟩ := h.mem f g hh x hx
    exact ⟨kn' _ m1, kn' _ m2, kn' _ m3, kn' _ m4, by rw [F' _ m1, F' _ m2, F' _ m3, F' _ m4]; exact m5⟩
  · intro i hi
    have := h.fr i (hf i hi).1
    refine ⟨this.1, by show i < (nodes'.length : Int); omega, fun hk => ?_⟩
    rcases knr hk with hk | hk
    · exact this.2.2 hk
    · exact (hf i hi).2 hk
  · show nodes'.length = _; rw [hfull]; simp [Tb.put]
  · intro i hi
    have hi' : (T.live i ∨ i ∈ T.lim) ∨ i = r := by
      rcases hi with hi | hi
      · rcases inv hi with hi | hi
        · exact .inl (.inl hi)
        · exact .inr hi
      · exact .inl (.inr hi)
    rcases hi' with hi | rfl
    · rw [F' i (hi.elim kn_live fun h => .inr (.inr (.inr h)))]
      exact h.cl i hi
    · simpa [Tb.put] using hc
/-- What 'make' does. -/
theorem make_ok (h : Ok n order level G T) (hcap : T.ms.length + T.lim.length ≤ CAP) {a l u : Int} (ha : 0 ≤ a ∧ a < n) (hl : T.kn l) (hu : T.kn u) (hdl : ix level a < dp n level T.nodes l) (hdu : ix level a < dp n level T.nodes u)
    (hc : Cl G (sel a (T.F l) (T.F u))) {Q : Int → Nds → List Int → Mp → Prop}
    (k : ∀ r T', Ok n order level G T' → Ext T T' → T'.memo = T.memo → T'.kn r → T'.F r = sel a (T.F l) (T.F u) → ix level a ≤ dp n level T'.nodes r → (T'.ms = T.ms ∨ T'.ms = T.ms ++ [((a, l, u), r)] ∧ ¬ T.kn r) → Q r T'.nodes T'.free T'.ms) :
    V_make T.nodes T.free T.ms order level T.memo a l u Q := by
  refine ⟨fun e => ?_, fun hne _ => ⟨fun hh => ?_, fun hh => ?_⟩⟩
  · subst e
    exact k l T h (Ext.refl T) rfl hl (by funext e; unfold sel; split <;> rfl) (by omega) (.inl rfl)
  · have hm := mhas_true (d := 0) hh
    have e := h.ent _ _ hm
    exact k _ T h (Ext.refl T) rfl (kn_live ⟨_, hm⟩) e.F (by rw [e.dp]; exact Int.le_refl _) (.inl rfl)
  · refine ⟨_, fun _ h => h, fun _ => ⟨by unfold I64; have := h.full; have := h.cap; have := hcap; unfold CAP at *; simp [Len] at *; omega, fun hpos => ?_, fun hneg => ?_⟩⟩
    · -- a free place
      have hlen : 0 < T.free.length := by omega
      have hge : T.free ≠ [] := fun e => by rw [e] at hlen; simp at hlen
      have hx : ix T.free ((T.free.length : Int) - 1) ∈ T.free := by
        have := ix_get (xs := T.free) (i := (T.free.length : Int) - 1) hpos (by omega)
        exact List.mem_of_getElem? this
      generalize hr : ix T.free ((T.free.length : Int) - 1) = r at hx ⊢
      obtain ⟨r2, rl, rk⟩ := h.fr r hx
      have htk : (T.free.take ((T.free.length : Int) - 1).toNat) = T.free.dropLast := by
        rw [List.dropLast_eq_take]; congr 1; omega
      have hlast : T.free.dropLast ++ [r] = T.free := by
        have h1 := List.dropLast_concat_getLast hge
        have h2 : T.free.getLast hge = r := by
          rw [← hr, List.getLast_eq_getElem]
          have := ix_get (xs := T.free) (i := (T.free.length : Int) - 1) hpos (by omega)
          rw [List.getElem?_eq_getElem (by omega)] at this
          rw [← Option.some.inj this]; congr 1; omega
        rw [h2] at h1; exact h1
      have hnd := h.frn
      rw [← hlast, List.nodup_append] at hnd
      have hset : ∀ i : Int, 0 ≤ i → i < T.nodes.length → i ≠ r → ix (T.nodes.set r.toNat (a, l, u)) i = ix T.nodes i := by
        intro i h0 h1 hne'
        unfold ix
        rw [List.getD_eq_getElem?_getD, List.getD_eq_getElem?_getD, List.getElem?_set_ne (by omega)]
      have hfl : T.free.dropLast.length + 1 = T.free.length := by rw [List.length_dropLast]; omega
      have := h.add (a := a) (l := l) (u := u) (r := r) (nodes' := T.nodes.set r.toNat (a, l, u)) (free' := T.free.dropLast) r2 (by simpa using rl) rk
        (by unfold ix; rw [List.getD_eq_getElem?_getD, List.getElem?_set_self (by omega)]; rfl) hset (by simp) (by simpa using h.nl) hnd.1
        (fun i hi => ⟨by rw [← hlast]; exact List.mem_append_left _ hi, fun e => hnd.2.2 i hi r (by simp) e⟩) (by rw [List.length_set, h.full]; omega) hh ha hne hl hu hdl hdu hc
      refine ⟨⟨hpos, by omega⟩, fun _ => ⟨⟨hpos, by omega⟩, ⟨by omega, rl⟩, ?_⟩⟩
      have hq := k r _ this.1 this.2 rfl (kn_live ⟨(a, l, u), List.mem_append_right _ (by simp)⟩) (by simp [Tb.put]) (by
        unfold dp; rw [if_neg (by omega)]
        show ix level a ≤ ix level (ix (T.nodes.set r.toNat (a, l, u)) r).1
        have : ix (T.nodes.set r.toNat (a, l, u)) r = (a, l, u) := by unfold ix; rw [List.getD_eq_getElem?_getD, List.getElem?_set_self (by omega)]; rfl
        rw [this]; exact Int.le_refl _) (.inr ⟨rfl, rk⟩)
      show Q r (T.nodes.set r.toNat (a, l, u)) (T.free.take ((T.free.length : Int) - 1).toNat) (mset T.ms (a, l, u) r)
      rw [htk, mset_new hh]; exact hq
    · -- a place more
      have hf : T.free = [] := by cases hF : T.free with
        | nil => rfl
        | cons a l => exfalso; rw [hF, List.length_cons] at hneg; omega
      have hfull := h.full
      rw [hf, List.length_nil, Nat.add_zero] at hfull
      have h2 := h.two
      have hrk : ¬ T.kn (T.nodes.length : Int) := fun hk => by have := (h.nonneg hk).2; omega
      have hget : ix (T.nodes ++ [(a, l, u)]) (T.nodes.length : Int) = (a, l, u) := by unfold ix; simp
      have := h.add (a := a) (l := l) (u := u) (r := (T.nodes.length : Int)) (nodes' := T.nodes ++ [(a, l, u)]) (free' := []) (by omega) (by simp; omega) hrk hget
        (fun i h0 h1 _ => by unfold ix; rw [List.getD_eq_getElem?_getD, List.getD_eq_getElem?_getD, List.getElem?_append_left (by omega)]) (by simp) (by simp; omega) (by simp) (by simp) (by simp; omega) hh ha hne hl hu hdl hdu hc
      refine fun _ => ⟨⟨by simp; unfold CAP at hcap; omega, by simp; unfold CAP at hcap; unfold maxLen; omega⟩, ?_⟩
      have hq := k _ _ this.1 this.2 rfl (kn_live ⟨(a, l, u), List.mem_append_right _ (by simp)⟩) (by simp [Tb.put]) (by
        unfold dp; rw [if_neg (by omega)]
        show ix level a ≤ ix level (ix (T.nodes ++ [(a, l, u)]) (T.nodes.length : Int)).1
        rw [hget]; exact Int.le_refl _) (.inr ⟨rfl, hrk⟩)
      show Q (T.nodes.length : Int) (T.nodes ++ [(a, l, u)]) T.free (mset T.ms (a, l, u) T.nodes.length)
      rw [hf, mset_new hh]; exact hq
theorem depth_ok (h : Ok n order level G T) (hl : T.lim = []) {f : Int} (hf : T.kn f) {Q : Int → Prop} (k : Q (dp n level T.nodes f)) : V_depth T.nodes T.free T.ms order level T.memo f Q := by
  have ho := h.ord
  rcases h.kn_case hl hf with rfl | rfl | ⟨key, h1, h2⟩
  · refine ⟨fun _ _ => ?_, fun h => absurd (by omega) h⟩
    rw [dp_end (by omega)] at k; rw [ho.lo]; exact k
  · refine ⟨fun _ _ => ?_, fun h => absurd (by omega) h⟩
    rw [dp_end (by omega)] at k; rw [ho.lo]; exact k
  · have := h2.i2
    refine ⟨fun h => by omega, fun _ => ⟨⟨by omega, h2.il⟩, fun _ => ?_⟩⟩
    rw [h2.at_]
    refine ⟨⟨h2.v0, by rw [ho.ll]; exact h2.vn⟩, fun _ => ?_⟩
    rw [h2.dp] at k; exact k
theorem split_ok (h : Ok n order level G T) (hl : T.lim = []) {f l : Int} (hf : T.kn f) (h0 : 0 ≤ l) (h1 : l < n) (hle : l ≤ dp n level T.nodes f) {Q : Int → Int → Prop}
    (k : ∀ c d, T.kn c → T.kn d → l < dp n level T.nodes c → l < dp n level T.nodes d → T.F c = cof (T.F f) (ix order l) false → T.F d = cof (T.F f) (ix order l) true → Q c d) :
    V_split T.nodes T.free T.ms order level T.memo f l Q := by
  have ho := h.ord.ol l h0 h1
  refine depth_ok h hl hf ⟨fun hne => ?_, fun he => ?_⟩
  · have hi := h.ind hl hf (v := ix order l) ho.1 ho.2.1 (by omega)
    exact k f f hf hf (by omega) (by omega) (hi false).symm (hi true).symm
  · have he : dp n level T.nodes f = l := by omega
    rcases h.kn_case hl hf with rfl | rfl | ⟨key, k1, k2⟩
    · rw [dp_end (by omega)] at he; omega
    · rw [dp_end (by omega)] at he; omega
    · have hv : key.1 = ix order l := by rw [← he, k2.dp]; exact (h.ord.lv key.1 k2.v0 k2.vn).2.2.symm
      have i2 := k2.i2
      have dl := k2.dl; have du := k2.du
      rw [k2.dp] at he
      have c0 := h.cofs hl k2 false; have c1 := h.cofs hl k2 true
      rw [hv] at c0 c1
      refine ⟨⟨by omega, k2.il⟩, fun _ => ⟨⟨by omega, k2.il⟩, fun _ => ?_⟩⟩
      rw [k2.at_]
      exact k _ _ k2.kl k2.ku (by omega) (by omega) (by simpa using c0.symm) (by simpa using c1.symm)
theorem iteF_cof {f g h : Fn} {v : Int} : sel v (iteF (cof f v false) (cof g v false) (cof h v false)) (iteF (cof f v true) (cof g v true) (cof h v true)) = iteF f g h := by
  rw [← cof_ite, ← cof_ite, sel_cof]
theorem Ok.memo_set (h : Ok n order level G T) {f g hh r : Int} (kf : T.kn f) (kg : T.kn g) (kh : T.kn hh) (kr : T.kn r) (e : T.F r = iteF (T.F f) (T.F g) (T.F hh)) :
    Ok n order level G { T with memo := mset T.memo (f, g, hh) r } := by
  refine ⟨h.ord, h.two, h.f0, h.f1, h.keys, fun k i hk => ?_, h.limr, h.limn, ?_, h.frn, h.fr, h.full, h.cl, h.gs, h.gl, h.bs, h.nl⟩
  · obtain ⟨a, b, c, d, e, f, g, i, j, k, l⟩ := h.ent k i hk
    exact ⟨a, b, c, d, e, f, g, i, j, k, l⟩
  · intro f' g' h' r' hm
    rcases mem_mset hm with hm | hm
    · cases hm; exact ⟨kf, kg, kh, kr, e⟩
    · exact h.mem _ _ _ _ hm
/-- What 'Ite' does. -/
theorem Ite_ok : ∀ (m : Nat) {T : Tb}, Ok n order level G T → T.lim = [] → ∀ {f g h : Int}, T.kn f → T.kn g → T.kn h → n - min (min (dp n level T.nodes f) (dp n level T.nodes g)) (dp n level T.nodes h) < m → Cl G (iteF (T.F f) (T.F g) (T.F h)) →
    ∀ {Q : Int → Nds → List Int → Mp → Mp → Prop}, (∀ r T', Ok n order level G T' → Ext T T' → T'.kn r → T'.F r = iteF (T.F f) (T.F g) (T.F h) → min (min (dp n level T.nodes f) (dp n level T.nodes g)) (dp n level T.nodes h) ≤ dp n level T'.nodes r → Q r T'.nodes T'.free T'.ms T'.memo) →
    V_Ite m T.nodes T.free T.ms order level T.memo f g h Q := by
  intro m
  induction m with
  | zero =>
    intro T ok hl f g h kf kg kh hm
    have := (ok.dp_le hl kf).2; have := (ok.dp_le hl kg).2; have := (ok.dp_le hl kh).2
    omega
  | succ m ih =>
    intro T ok hl f g h kf kg kh hm hc Q k
    have bf := ok.dp_le hl kf; have bg := ok.dp_le hl kg; have bh := ok.dp_le hl kh
    refine ⟨fun e => ?_, fun ne1 => ⟨fun e => ?_, fun ne0 => ⟨fun e => ?_, fun ne2 _ => ⟨fun hh => ?_, fun hh => ?_⟩⟩⟩⟩
    · refine k g T ok (Ext.refl T) kg ?_ (by omega)
      rcases e with rfl | rfl
      · rw [ok.f1]; rfl
      · funext e; unfold iteF; split <;> rfl
    · subst e
      exact k h T ok (Ext.refl T) kh (by rw [ok.f0]; rfl) (by omega)
    · obtain ⟨rfl, rfl⟩ := e
      exact k f T ok (Ext.refl T) kf (by rw [ok.f1, ok.f0]; funext e; unfold iteF; cases T.F f e <;> rfl) (by omega)
    · have hm' := mhas_true (d := 0) hh
      obtain ⟨m1, m2, m3, m4, m5⟩ := ok.mem _ _ _ _ hm'
      refine k _ T ok (Ext.refl T) m4 m5 ?_
      -- the level of what is remembered
      generalize mgetD T.memo (f, g, h) 0 = r at m4 m5
      generalize hd : min (min (dp n level T.nodes f) (dp n level T.nodes g)) (dp n level T.nodes h) = d at *
      rcases ok.kn_case hl m4 with rfl | rfl | ⟨key, k1, k2⟩
      · rw [dp_end (by omega)]; omega
      · rw [dp_end (by omega)]; omega
      · rw [k2.dp]
        rcases Int.lt_or_le (ix level key.1) d with hlt | hge
        · exfalso
          have hi : ∀ b, cof (T.F r) key.1 b = T.F r := fun b => by
            rw [m5, cof_ite, ok.ind hl kf k2.v0 k2.vn (by omega), ok.ind hl kg k2.v0 k2.vn (by omega), ok.ind hl kh k2.v0 k2.vn (by omega)]
          exact ok.hangs hl k2 (by rw [hi, hi])
        · exact hge
    · refine depth_ok ok hl kf (depth_ok ok hl kg (depth_ok ok hl kh ?_))
      generalize hd : min (min (dp n level T.nodes f) (dp n level T.nodes g)) (dp n level T.nodes h) = d at *
      have hdn : d < n := by
        have k2 : 2 ≤ f := by
          have := (ok.nonneg kf).1; omega
        rcases ok.kn_case hl kf with rfl | rfl | ⟨key, k1, k3⟩
        · omega
        · omega
        · have := (ok.ord.lv key.1 k3.v0 k3.vn).2.1
          have := k3.dp; omega
      have hd0 : 0 ≤ d := by omega
      have hv := ok.ord.ol d hd0 hdn
      refine split_ok ok hl kf hd0 hdn (by omega) fun f0 f1 a1 a2 a3 a4 a5 a6 => split_ok ok hl kg hd0 hdn (by omega) fun g0 g1 b1 b2 b3 b4 b5 b6 => split_ok ok hl kh hd0 hdn (by omega) fun h0 h1 c1 c2 c3 c4 c5 c6 => ?_
      refine ⟨⟨hd0, by rw [ok.ord.lo]; exact hdn⟩, fun _ => ?_⟩
      refine ih ok hl a1 b1 c1 (by omega) (by rw [a5, b5, c5, ← cof_ite]; exact hc.cof _ _) fun r0 T0 ok0 x0 k0 e0 d0 => ?_
      have hl0 : T0.lim = [] := x0.lim.trans hl
      have y : dp n level T0.nodes f1 = dp n level T.nodes f1 := x0.dp a2
      have y2 : dp n level T0.nodes g1 = dp n level T.nodes g1 := x0.dp b2
      have y3 : dp n level T0.nodes h1 = dp n level T.nodes h1 := x0.dp c2
      have hF1 : iteF (T0.F f1) (T0.F g1) (T0.F h1) = iteF (T.F f1) (T.F g1) (T.F h1) := by rw [x0.F _ a2, x0.F _ b2, x0.F _ c2]
      refine ih ok0 hl0 (x0.kn _ a2) (x0.kn _ b2) (x0.kn _ c2) (by rw [y, y2, y3]; omega) (by rw [hF1, a6, b6, c6, ← cof_ite]; exact hc.cof _ _) fun r1 T1 ok1 x1 k1 e1 d1 => ?_
      have hl1 : T1.lim = [] := x1.lim.trans hl0
      rw [y, y2, y3] at d1
      have hs : sel (ix order d) (T1.F r0) (T1.F r1) = iteF (T.F f) (T.F g) (T.F h) := by
        rw [x1.F _ k0, e0, e1, hF1, a5, b5, c5, a6, b6, c6, iteF_cof]
      have dr0 : dp n level T1.nodes r0 = dp n level T0.nodes r0 := x1.dp k0
      refine make_ok ok1 (ok1.cap hl1) ⟨hv.1, hv.2.1⟩ (x1.kn _ k0) k1 (by rw [hv.2.2, dr0]; omega) (by rw [hv.2.2]; omega) (by rw [hs]; exact hc) fun r T2 ok2 x2 em k2 e2 d2 _ => ?_
      have x02 : Ext T T2 := x0.trans (x1.trans x2)
      have eF : T2.F r = iteF (T2.F f) (T2.F g) (T2.F h) := by rw [e2, hs, x02.F _ kf, x02.F _ kg, x02.F _ kh]
      have ok3 := ok2.memo_set (x02.kn _ kf) (x02.kn _ kg) (x02.kn _ kh) k2 eF
      rw [← em]
      exact k r { T2 with memo := mset T2.memo (f, g, h) r } ok3 ⟨x02.kn, x02.F, x02.nd, x02.lim⟩ k2 (by show T2.F r = _; rw [e2, hs]) (by rw [hv.2.2] at d2; exact d2)
end Go.Vc
