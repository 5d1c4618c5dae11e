/- Diagrams in plain words, part 6: 'Swap' whole. No program in sight. -/
import Derived.Test.YtceipmldngeagaaPlainB5
set_option linter.unusedVariables false
set_option linter.unusedSimpArgs false
namespace Go.Vc
variable {n : Int} {order level : List Int} {G : List Fn} {T : Tb}
theorem cof_comm {f : Fn} {v w : Int} {a b : Bool} (h : v ≠ w) : cof (cof f v a) w b = cof (cof f w b) v a := by
  funext e; unfold cof; rw [upd_comm (Ne.symm h)]
theorem Ask.hangs (h : Ok n order level G T) (hl : T.lim = []) {L : Int} {c : List Int} (ha : Ask n order level T L c) {i : Int} (hi : i ∈ c) : cof (T.F i) (ix order (L + 1)) false ≠ cof (T.F i) (ix order (L + 1)) true := by
  obtain ⟨k, m1, m2, m3⟩ := (ha.mem i).1 hi
  have h0 := ha.h0; have h1 := ha.h1
  have ne := h.ord.ne ha.h0 ha.h1
  have en := h.ent _ _ m1
  have c0 := h.cofs hl en false; have c1 := h.cofs hl en true
  simp only [Bool.false_eq_true, if_false, if_true] at c0 c1
  intro e
  have key : ∀ w, T.kn w → Go.Vc.dp n level T.nodes w = L + 1 → ∀ b, cof (T.F i) k.1 b = T.F w → False := by
    intro w kw hw b hb
    rcases h.kn_case hl kw with rfl | rfl | ⟨k', q1, q2⟩
    · rw [dp0] at hw; omega
    · rw [dp1] at hw; omega
    · have hy : k'.1 = ix order (L + 1) := by rw [← hw, q2.dp]; exact (h.ord.lv _ q2.v0 q2.vn).2.2.symm
      refine h.hangs hl q2 ?_
      rw [hy, ← hb, m2, cof_comm ne, cof_comm ne, e]
  rcases m3 with m3 | m3
  · exact key _ en.kl m3 false c0
  · exact key _ en.ku m3 true c1
theorem drop_cons {c : List Int} {x : Nat} {i : Int} (hi : c[x]? = some i) : c.drop x = i :: c.drop (x + 1) := by
  have hx := (List.getElem?_eq_some_iff.1 hi)
  obtain ⟨hlt, e⟩ := hx
  rw [List.drop_eq_getElem_cons hlt, e]
theorem take_cons {c : List Int} {x : Nat} {i : Int} (hi : c[x]? = some i) : c.take (x + 1) = c.take x ++ [i] := by
  rw [List.take_add_one, hi]; rfl
theorem notin_take {c : List Int} {x : Nat} {i : Int} (hn : c.Nodup) (hi : c[x]? = some i) : i ∉ c.take x ∧ i ∉ c.drop (x + 1) := by
  have := List.take_append_drop x c
  rw [drop_cons hi] at this
  rw [← this, List.nodup_append, List.nodup_cons] at hn
  exact ⟨fun hm => hn.2.2 i hm i (by simp) rfl, hn.2.1.1⟩
def Tb.turn (U : Tb) (i y low up : Int) (lim : List Int) : Tb := { nodes := U.nodes.set i.toNat (y, low, up), free := U.free, ms := U.ms ++ [((y, low, up), i)], memo := U.memo, F := U.F, lim := lim }
theorem Sw.turn (h : Ok n order level G T) (hl : T.lim = []) {L : Int} {c : List Int} {x : Nat} {U : Tb} (ha : Ask n order level T L c) (s : Sw n order level G T L c x U) {i : Int} (hi : c[x]? = some i) {low up : Int}
    (kl : U.kn low) (ku : U.kn up) (Fl : U.F low = cof (T.F i) (ix order (L + 1)) false) (Fu : U.F up = cof (T.F i) (ix order (L + 1)) true) (dl : L + 1 ≤ dp n (swL order level L) U.nodes low) (du : L + 1 ≤ dp n (swL order level L) U.nodes up) (nl : low ∉ c) (nu : up ∉ c) :
    mhas U.ms (ix order (L + 1), low, up) = false ∧ 2 ≤ i ∧ i < U.nodes.length ∧ Sw n order level G T L c (x + 1) (U.turn i (ix order (L + 1)) low up (c.drop (x + 1))) := by
  have h0 := ha.h0; have h1 := ha.h1
  have ne := h.ord.ne ha.h0 ha.h1
  have hy := h.ord.ol (L + 1) (by omega) h1
  have hx := h.ord.ol L (by omega) (by omega)
  have ly : ix (swL order level L) (ix order (L + 1)) = L := by rw [swL_ix h.ord h0 h1 hy.1 hy.2.1, hy.2.2]; unfold sw; rw [if_neg (by omega), if_pos rfl]
  have lx : ix (swL order level L) (ix order L) = L + 1 := by rw [swL_ix h.ord h0 h1 hx.1 hx.2.1, hx.2.2]; unfold sw; rw [if_pos rfl]
  have hic : i ∈ c := List.mem_of_getElem? hi
  have nt := notin_take ha.nd hi
  obtain ⟨⟨k, hk⟩, hdp⟩ := Ask.dp h hl ha hic
  have kT : T.kn i := kn_live ⟨k, hk⟩
  have hlim : U.lim = i :: c.drop (x + 1) := by rw [s.lim, drop_cons hi]
  have hmem : i ∈ U.lim := by rw [hlim]; simp
  obtain ⟨i2, il, inl⟩ := s.ok.limr i hmem
  have hlu : low ≠ up := fun e => Ask.hangs h hl ha hic (by rw [← Fl, ← Fu, e])
  have hF : T.F i = sel (ix order (L + 1)) (U.F low) (U.F up) := by rw [Fl, Fu, sel_cof]
  have hno : mhas U.ms (ix order (L + 1), low, up) = false := by
    cases hm : mhas U.ms (ix order (L + 1), low, up) with
    | false => rfl
    | true =>
      exfalso
      have hmm := mhas_true (d := 0) hm
      have en := s.ok.ent _ _ hmm
      have := s.inj h hl ha (i := mgetD U.ms (ix order (L + 1), low, up) 0) (j := i) (.inl ⟨_, hmm⟩) (.inr hmem) (by rw [en.F, s.F _ kT, hF])
      rw [this] at hmm
      exact inl ⟨_, hmm⟩
  have nodei : ix U.nodes i = ix T.nodes i := s.nd i kT nt.1
  have enT := h.ent _ _ hk
  have hk1 : k.1 = ix order L := by rw [enT.dp] at hdp; rw [← hdp]; exact (h.ord.lv _ enT.v0 enT.vn).2.2.symm
  have dpi : dp n (swL order level L) U.nodes i = L + 1 := by unfold dp; rw [if_neg (by omega), nodei, enT.at_, hk1, lx]
  have seti : ix (U.nodes.set i.toNat (ix order (L + 1), low, up)) i = (ix order (L + 1), low, up) := by rw [ix_set (by omega) il (by omega), if_pos rfl]
  have setne : ∀ j, 0 ≤ j → j ≠ i → ix (U.nodes.set i.toNat (ix order (L + 1), low, up)) j = ix U.nodes j := fun j hj hne => by rw [ix_set (by omega) il hj, if_neg hne]
  have dpne : ∀ j, 0 ≤ j → j ≠ i → dp n (swL order level L) (U.nodes.set i.toNat (ix order (L + 1), low, up)) j = dp n (swL order level L) U.nodes j := fun j hj hne => by unfold dp; rw [setne j hj hne]
  have live' : ∀ {j}, U.live j → (U.turn i (ix order (L + 1)) low up (c.drop (x + 1))).live j := fun ⟨k, hk⟩ => ⟨k, List.mem_append_left _ hk⟩
  have kn' : ∀ {j}, U.kn j → (U.turn i (ix order (L + 1)) low up (c.drop (x + 1))).kn j := by
    rintro j (hj | hj | hj | hj)
    · exact .inl hj
    · exact .inr (.inl hj)
    · exact kn_live (live' hj)
    · rw [hlim] at hj
      rcases List.mem_cons.1 hj with rfl | hj
      · exact kn_live ⟨(ix order (L + 1), low, up), List.mem_append_right _ (by simp)⟩
      · exact .inr (.inr (.inr hj))
  have inv : ∀ {j}, (U.turn i (ix order (L + 1)) low up (c.drop (x + 1))).live j → U.live j ∨ j = i := by
    rintro j ⟨k, hk⟩
    rcases List.mem_append.1 hk with hk | hk
    · exact .inl ⟨k, hk⟩
    · simp at hk; exact .inr hk.2
  have lni : low ≠ i := fun e => nl (e ▸ hic)
  have uni : up ≠ i := fun e => nu (e ▸ hic)
  have n0l := (s.ok.nonneg kl).1; have n0u := (s.ok.nonneg ku).1
  refine ⟨hno, i2, il, ⟨⟨s.ok.ord, by show 2 ≤ (U.nodes.set _ _).length; rw [List.length_set]; exact s.ok.two, s.ok.f0, s.ok.f1, ?_, ?_, ?_, ?_, ?_, s.ok.frn, ?_, ?_, ?_, s.ok.gs, s.ok.gl, s.ok.bs, by show (U.nodes.set _ _).length ≤ _; rw [List.length_set]; exact s.ok.nl⟩, rfl, s.memo, fun j hj => kn' (s.kn j hj), s.F, ?_, ?_, ?_, ?_⟩⟩
  · show ((U.ms ++ [((ix order (L + 1), low, up), i)]).map (·.1)).Nodup
    rw [List.map_append, List.nodup_append]
    refine ⟨s.ok.keys, by simp, ?_⟩
    intro a ha b hb e
    obtain ⟨p, hp, rfl⟩ := List.mem_map.1 ha
    simp at hb
    exact mhas_false hno p hp (e.trans hb)
  · intro key j hj
    rcases List.mem_append.1 hj with hj | hj
    · have e := s.ok.ent key j hj
      have hji : j ≠ i := fun e' => inl (e' ▸ ⟨key, hj⟩)
      have j2 := e.i2
      have cdp : ∀ z, U.kn z → ix (swL order level L) key.1 < dp n (swL order level L) U.nodes z → (z = i → key.1 ≠ ix order (L + 1)) → ix (swL order level L) key.1 < dp n (swL order level L) (U.nodes.set i.toNat (ix order (L + 1), low, up)) z := by
        intro z kz hz hzi
        by_cases e' : z = i
        · subst e'
          rw [dpi] at hz
          have lv := s.ok.ord.lv key.1 e.v0 e.vn
          have hneL : ix (swL order level L) key.1 ≠ L := fun q => hzi rfl (by
            rw [← lv.2.2, q, swO_ix h.ord h0 h1 h0]; unfold sw; rw [if_pos rfl])
          unfold dp; rw [if_neg (by omega), seti]; dsimp only; rw [ly]; omega
        · rw [dpne z (s.ok.nonneg kz).1 e']; exact hz
      refine ⟨e.i2, by show j < ((U.nodes.set _ _).length : Int); rw [List.length_set]; exact e.il, ?_, e.v0, e.vn, e.ne, kn' e.kl, kn' e.ku, ?_, ?_, e.F⟩
      · exact (setne j (by omega) hji).trans e.at_
      · exact cdp _ e.kl e.dl fun q hy' => (s.noy key j hj hy').1 (by rw [q, drop_cons hi]; simp)
      · exact cdp _ e.ku e.du fun q hy' => (s.noy key j hj hy').2 (by rw [q, drop_cons hi]; simp)
    · simp at hj
      obtain ⟨rfl, rfl⟩ := hj
      refine ⟨i2, by show j < ((U.nodes.set _ _).length : Int); rw [List.length_set]; exact il, seti, hy.1, hy.2.1, hlu, kn' kl, kn' ku, ?_, ?_, ?_⟩
      · show ix (swL order level L) (ix order (L + 1)) < dp n _ (U.nodes.set _ _) low
        rw [dpne _ n0l lni, ly]; omega
      · show ix (swL order level L) (ix order (L + 1)) < dp n _ (U.nodes.set _ _) up
        rw [dpne _ n0u uni, ly]; omega
      · show U.F j = _; rw [s.F _ kT]; exact hF
  · intro j hj
    have hj' : j ∈ U.lim := by rw [hlim]; exact List.mem_cons_of_mem _ hj
    have := s.ok.limr j hj'
    refine ⟨this.1, by show j < ((U.nodes.set _ _).length : Int); rw [List.length_set]; exact this.2.1, fun hv => ?_⟩
    rcases inv hv with hv | rfl
    · exact this.2.2 hv
    · exact nt.2 hj
  · exact ha.nd.sublist (List.drop_sublist _ _)
  · intro f g hh r hm
    obtain ⟨m1, m2, m3, m4, m5⟩ := s.ok.mem f g hh r hm
    exact ⟨kn' m1, kn' m2, kn' m3, kn' m4, m5⟩
  · intro j hj
    have := s.ok.fr j hj
    refine ⟨this.1, by show j < ((U.nodes.set _ _).length : Int); rw [List.length_set]; exact this.2.1, fun hk => this.2.2 ?_⟩
    rcases hk with hk | hk | hk | hk
    · exact .inl hk
    · exact .inr (.inl hk)
    · rcases inv hk with hk | rfl
      · exact kn_live hk
      · exact .inr (.inr (.inr hmem))
    · exact .inr (.inr (.inr (by rw [hlim]; exact List.mem_cons_of_mem _ hk)))
  · have := s.ok.full
    rw [hlim] at this
    show (U.nodes.set _ _).length = 2 + (U.ms ++ [_]).length + (c.drop (x + 1)).length + U.free.length
    rw [List.length_set, this]; simp; omega
  · intro j hj
    show Cl G (U.F j)
    rcases hj with hj | hj
    · rcases inv hj with hj | rfl
      · exact s.ok.cl j (.inl hj)
      · exact s.ok.cl j (.inr hmem)
    · exact s.ok.cl j (.inr (by rw [hlim]; exact List.mem_cons_of_mem _ hj))
  · intro j hj hn
    rw [take_cons hi, List.mem_append, not_or] at hn
    have hji : j ≠ i := fun e => hn.2 (by simp [e])
    exact (setne j (h.nonneg hj).1 hji).trans (s.nd j hj hn.1)
  · intro key j hj hn
    rcases List.mem_append.1 hj with hj | hj
    · exact s.new key j hj hn
    · simp at hj; obtain ⟨rfl, rfl⟩ := hj; exact absurd kT hn
  · intro key j hj hn; exact List.mem_append_left _ (s.keep key j hj hn)
  · intro key j hj hy'
    rcases List.mem_append.1 hj with hj | hj
    · have := s.noy key j hj hy'
      rw [drop_cons hi] at this
      exact ⟨fun hm => this.1 (List.mem_cons_of_mem _ hm), fun hm => this.2 (List.mem_cons_of_mem _ hm)⟩
    · simp at hj; obtain ⟨rfl, rfl⟩ := hj
      exact ⟨fun hm => nl (List.drop_subset _ _ hm), fun hm => nu (List.drop_subset _ _ hm)⟩
theorem Sw.start (h : Ok n order level G T) (hl : T.lim = []) {L : Int} {c : List Int} (ha : Ask n order level T L c) {ms1 : Mp} (hk : (ms1.map (·.1)).Nodup) (hm : ∀ p, p ∈ ms1 ↔ p ∈ T.ms ∧ p.2 ∉ c) (hlen : ms1.length + c.length = T.ms.length) :
    Sw n order level G T L c 0 { nodes := T.nodes, free := T.free, ms := ms1, memo := T.memo, F := T.F, lim := c } := by
  have h0 := ha.h0; have h1 := ha.h1
  have hy := h.ord.ol (L + 1) (by omega) h1
  have kn' : ∀ {i}, T.kn i → ({ nodes := T.nodes, free := T.free, ms := ms1, memo := T.memo, F := T.F, lim := c } : Tb).kn i := fun {i} hi => by
    rcases h.kn_case hl hi with rfl | rfl | ⟨k, k1, k2⟩
    · exact kn_zero
    · exact kn_one
    · by_cases hc : i ∈ c
      · exact .inr (.inr (.inr hc))
      · exact kn_live ⟨k, (hm _).2 ⟨k1, hc⟩⟩
  have knr : ∀ {i}, ({ nodes := T.nodes, free := T.free, ms := ms1, memo := T.memo, F := T.F, lim := c } : Tb).kn i → T.kn i := fun {i} hi => by
    rcases hi with hi | hi | ⟨k, hi⟩ | hi
    · exact .inl hi
    · exact .inr (.inl hi)
    · exact kn_live ⟨k, ((hm _).1 hi).1⟩
    · exact kn_live (Ask.dp h hl ha hi).1
  refine ⟨⟨h.ord.swap h0 h1, h.two, h.f0, h.f1, hk, ?_, ?_, ha.nd, ?_, h.frn, ?_, ?_, ?_, h.gs, h.gl, h.bs, h.nl⟩, by simp, rfl, fun i hi => kn' hi, fun _ _ => rfl, fun _ _ _ => rfl, ?_, ?_, ?_⟩
  · intro k i hi
    obtain ⟨a1, a2⟩ := (hm _).1 hi
    obtain ⟨b1, b2, b3, b4, b5, b6, b7, b8, b9, b10, b11⟩ := h.ent k i a1
    have hno : ¬ (k.1 = ix order L ∧ (dp n level T.nodes k.2.1 = L + 1 ∨ dp n level T.nodes k.2.2 = L + 1)) := fun hc => a2 ((ha.mem i).2 ⟨k, a1, hc⟩)
    have hlk := swL_ix h.ord h0 h1 b4 b5
    have lv := h.ord.lv _ b4 b5
    have hx : ix level k.1 = L → k.1 = ix order L := fun e => by rw [← e]; exact lv.2.2.symm
    have step : ∀ z, T.kn z → ix level k.1 < dp n level T.nodes z → ¬ (ix level k.1 = L ∧ dp n level T.nodes z = L + 1) → ix (swL order level L) k.1 < dp n (swL order level L) T.nodes z := by
      intro z kz hz hno'
      rw [hlk, dp_sw h hl h0 h1 kz]
      unfold sw
      repeat (first | omega | split)
    exact ⟨b1, b2, b3, b4, b5, b6, kn' b7, kn' b8, step _ b7 b9 fun ⟨q1, q2⟩ => hno ⟨hx q1, .inl q2⟩, step _ b8 b10 fun ⟨q1, q2⟩ => hno ⟨hx q1, .inr q2⟩, b11⟩
  · intro i hi
    have q := Ask.dp h hl ha hi
    obtain ⟨⟨k, hk⟩, _⟩ := q
    have e := h.ent _ _ hk
    exact ⟨e.i2, e.il, fun ⟨k', hk'⟩ => ((hm _).1 hk').2 hi⟩
  · intro f g hh r hm'
    obtain ⟨m1, m2, m3, m4, m5⟩ := h.mem f g hh r hm'
    exact ⟨kn' m1, kn' m2, kn' m3, kn' m4, m5⟩
  · intro i hi
    have := h.fr i hi
    exact ⟨this.1, this.2.1, fun hk => this.2.2 (knr hk)⟩
  · have := h.full
    rw [hl] at this
    show T.nodes.length = 2 + ms1.length + c.length + T.free.length
    simp at this; omega
  · intro i hi
    refine h.cl i (.inl ?_)
    rcases hi with ⟨k, hi⟩ | hi
    · exact ⟨k, ((hm _).1 hi).1⟩
    · exact (Ask.dp h hl ha hi).1
  · intro k i hi hn
    exact absurd (kn_live ⟨k, ((hm _).1 hi).1⟩) hn
  · intro k i hi hc; exact (hm _).2 ⟨hi, hc⟩
  · intro k i hi hy'
    obtain ⟨a1, a2⟩ := (hm _).1 hi
    have e := h.ent k i a1
    have lk : ix level k.1 = L + 1 := by rw [hy']; exact hy.2.2
    have d1 := e.dl; have d2 := e.du
    exact ⟨fun hc => by have := (Ask.dp h hl ha hc).2; omega, fun hc => by have := (Ask.dp h hl ha hc).2; omega⟩
/-- What lies below a node with a variable let false and let true, where it may ask that variable. -/
theorem under_cof (h : Ok n order level G T) (hl : T.lim = []) {L : Int} {c : List Int} {x : Nat} {U : Tb} (ha : Ask n order level T L c) (s : Sw n order level G T L c x U) {f : Int} (hf : T.kn f) (hd : L < dp n level T.nodes f)
    {free : List Int} {ms memo : Mp} {o' l' : List Int} {Q : Int → Int → Prop} (k : ∀ a b, T.kn a → T.kn b → L + 1 < dp n level T.nodes a → L + 1 < dp n level T.nodes b → T.F a = cof (T.F f) (ix order (L + 1)) false → T.F b = cof (T.F f) (ix order (L + 1)) true → Q a b) :
    V_under U.nodes free ms o' l' memo f (ix order (L + 1)) Q := by
  have h0 := ha.h0; have h1 := ha.h1
  have hc : f ∉ c := fun hc => by have := (Ask.dp h hl ha hc).2; omega
  have hn := s.nd f hf fun hm => hc (List.take_subset _ _ hm)
  have hy := h.ord.ol (L + 1) (by omega) h1
  refine under_ok (fun _ => (s.ok.nonneg (s.kn f hf)).2) ?_
  rw [hn]
  have hat := dp_at h hl (j := L + 1) (by omega) h1 hf
  by_cases e : 1 < f ∧ (ix T.nodes f).1 = ix order (L + 1)
  · rw [if_pos e]
    rcases h.kn_case hl hf with rfl | rfl | ⟨k', k1, k2⟩
    · omega
    · omega
    · rw [k2.at_] at e ⊢
      have c0 := h.cofs hl k2 false; have c1 := h.cofs hl k2 true
      simp only [Bool.false_eq_true, if_false, if_true] at c0 c1
      have lk : ix level k'.1 = L + 1 := by rw [e.2]; exact hy.2.2
      have d1 := k2.dl; have d2 := k2.du
      rw [e.2] at c0 c1
      exact k _ _ k2.kl k2.ku (by omega) (by omega) c0.symm c1.symm
  · rw [if_neg e]
    have hne : dp n level T.nodes f ≠ L + 1 := fun q => e (hat.2 q)
    have hi := h.ind hl hf hy.1 hy.2.1 (by omega)
    exact k f f hf hf (by omega) (by omega) (hi false).symm (hi true).symm
theorem Swap_ok (h : Ok n order level G T) (hl : T.lim = []) {L : Int} (hL : I64 L) {Q : Bool → Nds → List Int → Mp → List Int → List Int → Mp → Prop} (k0 : ¬ (0 ≤ L ∧ L + 1 < n) → Q false T.nodes T.free T.ms order level T.memo)
    (k1 : 0 ≤ L → L + 1 < n → ∀ T', Ok n (swO order L) (swL order level L) G T' → T'.lim = [] → (∀ i, T.kn i → T'.kn i ∧ T'.F i = T.F i) → Q true T'.nodes T'.free T'.ms (swO order L) (swL order level L) T'.memo) :
    V_Swap T.nodes T.free T.ms order level T.memo L Q := by
  have ho := h.ord.lo; have n9 := h.ord.n9; have n0 := h.ord.n0
  have hcap := h.cap hl
  rw [hl] at hcap
  unfold CAP at hcap
  refine ⟨fun b => b = decide (L < 0 ∨ n - 1 ≤ L), fun b hb => ⟨fun ht => ?_, fun ht => ?_⟩, fun hneg => by simp [hneg], fun hpos _ => ⟨by unfold I64; omega, by rw [ho]; simp [hpos]⟩⟩
  · rw [hb] at ht
    have ht := of_decide_eq_true ht
    exact k0 (by omega)
  rw [hb] at ht
  have ht : ¬ (L < 0 ∨ n - 1 ≤ L) := of_decide_eq_false ht
  have h0 : 0 ≤ L := by omega
  have h1 : L + 1 < n := by omega
  have k1 := k1 h0 h1
  have ne := h.ord.ne h0 h1
  have hx := h.ord.ol L h0 (by omega)
  have hy := h.ord.ol (L + 1) (by omega) h1
  refine ⟨⟨h0, by omega⟩, fun _ => ⟨by unfold I64; omega, ⟨by omega, by omega⟩, fun _ => ?_⟩⟩
  refine ⟨fun st => st.1.Nodup ∧ ∀ i, i ∈ st.1 ↔ ∃ k, (k, i) ∈ T.ms ∧ k ∈ st.2 ∧ k.1 = ix order L ∧ (dp n level T.nodes k.2.1 = L + 1 ∨ dp n level T.nodes k.2.2 = L + 1), fun st => left T.ms st.2, ⟨List.nodup_nil, fun i => by simp⟩, ?_⟩
  rintro ⟨ask, sn⟩ ⟨a1, a2⟩
  dsimp only at a1 a2
  have hal : ask.length ≤ T.ms.length := by
    have := nodup_sub_len (m := T.ms.map (·.2)) a1 fun i hi => by
      obtain ⟨k, q, _⟩ := (a2 i).1 hi
      exact List.mem_map.2 ⟨_, q, rfl⟩
    simpa using this
  simp only [List.length_nil, Nat.add_zero] at hcap
  refine ⟨fun hall => ⟨by omega, ?_⟩, fun key e hm hk _ _ => ?_⟩
  · have hp := List.mergeSort_perm ask fun x y => decide (x ≤ y)
    generalize hcs : (ask.mergeSort fun x y => decide (x ≤ y)) = c at hp
    have ha : Ask n order level T L c := by
      refine ⟨h0, h1, hp.nodup_iff.2 a1, fun i => ?_⟩
      rw [hp.mem_iff, a2 i]
      exact ⟨fun ⟨k, q1, _, q2⟩ => ⟨k, q1, q2⟩, fun ⟨k, q1, q2⟩ => ⟨k, q1, hall _ q1, q2⟩⟩
    have hcl : c.length ≤ T.ms.length := by rw [hp.length_eq]; exact hal
    clear a2 a1 hp hcs hal hall
    intro _
    refine ⟨fun st => 0 ≤ st.2 ∧ st.2 ≤ c.length ∧ (st.1.map (·.1)).Nodup ∧ (∀ p, p ∈ st.1 ↔ p ∈ T.ms ∧ p.2 ∉ c.take st.2.toNat) ∧ st.1.length + st.2.toNat = T.ms.length, fun st => (c.length - st.2).toNat, ⟨Int.le_refl 0, by dsimp only; omega, h.keys, fun p => by simp, by simp⟩, ?_⟩
    rintro ⟨ms1, x⟩ ⟨g0, g1, g2, g3, g4⟩
    dsimp only at g0 g1 g2 g3 g4
    refine ⟨fun hlt => ⟨⟨g0, hlt⟩, fun _ => ?_⟩, fun hge => ?_⟩
    · have hi := ix_get g0 hlt
      generalize hie : ix c x = i at hi ⊢
      have hic := List.mem_of_getElem? hi
      obtain ⟨⟨k, hk⟩, _⟩ := Ask.dp h hl ha hic
      have e := h.ent _ _ hk
      have i2 := e.i2
      have nt := notin_take ha.nd hi
      have hin : (k, i) ∈ ms1 := (g3 _).2 ⟨hk, nt.1⟩
      have hx1 : (x + 1).toNat = x.toNat + 1 := by omega
      refine ⟨⟨by omega, e.il⟩, fun _ _ _ => ⟨by unfold I64; omega, ⟨by dsimp only; omega, by dsimp only; omega, ?_, fun p => ?_, ?_⟩, by dsimp only; omega⟩⟩
      · exact (mdel_sub.map _).nodup g2
      · dsimp only
        rw [e.at_, show (k.1, k.2.1, k.2.2) = k from rfl, mem_mdel g2, g3 p, hx1, take_cons hi, List.mem_append, List.mem_singleton]
        constructor
        · rintro ⟨⟨q1, q2⟩, q3⟩
          refine ⟨q1, fun hc => hc.elim q2 fun q => q3 ?_⟩
          rw [← (h.ent p.1 p.2 q1).at_, q, e.at_]
        · rintro ⟨q1, q2⟩
          refine ⟨⟨q1, fun hc => q2 (.inl hc)⟩, fun q => q2 (.inr ?_)⟩
          have m1 := mfind_of_mem h.keys q1
          rw [q, mfind_of_mem h.keys hk] at m1
          exact (Option.some.inj m1).symm
      · dsimp only
        rw [e.at_, show (k.1, k.2.1, k.2.2) = k from rfl]
        have := mdel_len hin; omega
    · have hxe : x.toNat = c.length := by omega
      rw [hxe] at g4
      have g3' : ∀ p, p ∈ ms1 ↔ p ∈ T.ms ∧ p.2 ∉ c := fun p => by rw [g3 p, hxe, List.take_length]
      have st := Sw.start h hl ha g2 g3' g4
      have ho2 := h.ord.ll
      refine ⟨by unfold I64; omega, ⟨h0, by omega⟩, ⟨by omega, by rw [List.length_set]; omega⟩, by unfold I64; omega, ⟨hx.1, by omega⟩, ⟨hy.1, by rw [List.length_set]; omega⟩, fun _ => ?_⟩
      refine ⟨fun st => 0 ≤ st.2.2.2 ∧ st.2.2.2 ≤ c.length ∧ ∃ U, st.1 = U.nodes ∧ st.2.1 = U.free ∧ st.2.2.1 = U.ms ∧ Sw n order level G T L c st.2.2.2.toNat U, fun st => (c.length - st.2.2.2).toNat, ⟨Int.le_refl 0, by dsimp only; omega, { nodes := T.nodes, free := T.free, ms := ms1, memo := T.memo, F := T.F, lim := c }, rfl, rfl, rfl, st⟩, ?_⟩
      clear st g3 g3' g4 g2 hxe
      rintro ⟨nodes, free, ms, x⟩ ⟨g0, g1, U, e1, e2, e3, s⟩
      dsimp only at g0 g1 e1 e2 e3 s
      subst e1 e2 e3
      refine ⟨fun hlt => ⟨⟨g0, hlt⟩, fun _ => ?_⟩, fun hge => ?_⟩
      · have hi := ix_get g0 hlt
        generalize hie : ix c x = i at hi ⊢
        have hic := List.mem_of_getElem? hi
        obtain ⟨⟨k, hk⟩, _⟩ := Ask.dp h hl ha hic
        have e := h.ent _ _ hk
        have i2 := e.i2
        have nt := notin_take ha.nd hi
        have kT : T.kn i := kn_live ⟨k, hk⟩
        have hk1 : k.1 = ix order L := by
          obtain ⟨k', q1, q2, _⟩ := (ha.mem i).1 hic
          rw [← e.at_, (h.ent _ _ q1).at_, q2]
        have lk : ix level k.1 = L := by rw [hk1]; exact hx.2.2
        have d1 := e.dl; have d2 := e.du
        have hx1 : (x + 1).toNat = x.toNat + 1 := by omega
        have cl0 := h.cofs hl e false; have cl1 := h.cofs hl e true
        simp only [Bool.false_eq_true, if_false, if_true] at cl0 cl1
        have hcl : Cl G (T.F i) := h.cl i (.inl ⟨k, hk⟩)
        refine ⟨⟨by omega, (s.ok.nonneg (s.kn i kT)).2⟩, fun _ _ _ => ?_⟩
        rw [s.nd i kT nt.1, e.at_]
        refine under_cof h hl ha s e.kl (by omega) fun f00 f01 p1 p2 p3 p4 p5 p6 => under_cof h hl ha s e.ku (by omega) fun f10 f11 q1 q2 q3 q4 q5 q6 => ?_
        have F0 : sel (ix order L) (T.F f00) (T.F f10) = cof (T.F i) (ix order (L + 1)) false := by
          rw [p5, q5, ← cl0, ← cl1, hk1, cof_comm ne, cof_comm ne, sel_cof]
        have F1 : sel (ix order L) (T.F f01) (T.F f11) = cof (T.F i) (ix order (L + 1)) true := by
          rw [p6, q6, ← cl0, ← cl1, hk1, cof_comm ne, cof_comm ne, sel_cof]
        refine s.make h hl ha p1 q1 p3 q3 (by rw [F0]; exact hcl.cof _ _) fun r0 U0 s0 kr0 er0 dr0 nr0 _ => ?_
        refine s0.make h hl ha p2 q2 p4 q4 (by rw [F1]; exact hcl.cof _ _) fun r1 U1 s1 kr1 er1 dr1 nr1 x1 => ?_
        obtain ⟨y1, y2, y3⟩ := x1 r0 kr0
        have tn := s1.turn h hl ha hi y1 kr1 (by rw [y2, er0, F0]) (by rw [er1, F1]) (by unfold dp at dr0 ⊢; rw [y3]; exact dr0) dr1 nr0 nr1
        obtain ⟨t1, t2, t3, t4⟩ := tn
        have hset : ix (U1.nodes.set i.toNat (ix order (L + 1), r0, r1)) i = (ix order (L + 1), r0, r1) := by rw [ix_set (by omega) t3 (by omega), if_pos rfl]
        rw [hset]
        refine ⟨⟨by omega, t3⟩, ⟨by omega, by rw [List.length_set]; exact t3⟩, fun _ _ _ => ⟨by unfold I64; omega, ⟨by dsimp only; omega, by dsimp only; omega, U1.turn i (ix order (L + 1)) r0 r1 (c.drop (x.toNat + 1)), rfl, rfl, ?_, ?_⟩, by dsimp only; omega⟩⟩
        · show mset U1.ms (ix order (L + 1), r0, r1) i = _
          rw [mset_new t1]; rfl
        · dsimp only; rw [hx1]; exact t4
      · have hxe : x.toNat = c.length := by omega
        rw [hxe] at s
        have hlim : U.lim = [] := by rw [s.lim, List.drop_length]
        have ok := s.ok
        exact k1 { U with memo := [] } ⟨ok.ord, ok.two, ok.f0, ok.f1, ok.keys, fun k i hk => by obtain ⟨b1, b2, b3, b4, b5, b6, b7, b8, b9, b10, b11⟩ := ok.ent k i hk; exact ⟨b1, b2, b3, b4, b5, b6, b7, b8, b9, b10, b11⟩, ok.limr, ok.limn, fun _ _ _ _ hm => (by cases hm), ok.frn, ok.fr, ok.full, ok.cl, ok.gs, ok.gl, ok.bs, ok.nl⟩ hlim fun i hi => ⟨s.kn i hi, s.F i hi⟩
  · have en := h.ent _ _ hm
    have ml : ∀ b, 0 < b → left T.ms (key :: sn) < left T.ms sn := fun _ _ => left_lt hm hk
    refine ⟨fun b => b = decide (key.1 = ix order L ∧ (dp n level T.nodes key.2.1 = L + 1 ∨ dp n level T.nodes key.2.2 = L + 1)), fun b hb => ⟨fun ht => ?_, fun ht => ?_⟩, fun hkx => ?_, fun hkx => by simp [hkx]⟩
    · rw [hb] at ht
      have ht := of_decide_eq_true ht
      have hne : e ∉ ask := fun hin => by
        obtain ⟨k, q1, q2, _⟩ := (a2 e).1 hin
        have : k = key := by rw [← (h.ent _ _ q1).at_, en.at_]
        exact hk (this ▸ q2)
      refine ⟨⟨by simp; omega, by simp; unfold maxLen; omega⟩, ⟨?_, fun i => ?_⟩, left_lt hm hk⟩
      · dsimp only; rw [List.nodup_append]; exact ⟨a1, by simp, fun u hu v hv q => hne (by simp at hv; rw [← hv, ← q]; exact hu)⟩
      · dsimp only
        rw [List.mem_append, a2 i, List.mem_singleton]
        constructor
        · rintro (⟨k, q1, q2, q3⟩ | rfl)
          · exact ⟨k, q1, List.mem_cons_of_mem _ q2, q3⟩
          · exact ⟨key, hm, by simp, ht⟩
        · rintro ⟨k, q1, q2, q3⟩
          rcases List.mem_cons.1 q2 with rfl | q2
          · right
            have m1 := mfind_of_mem h.keys q1
            rw [mfind_of_mem h.keys hm] at m1
            exact (Option.some.inj m1).symm
          · exact .inl ⟨k, q1, q2, q3⟩
    · rw [hb] at ht
      have ht := of_decide_eq_false ht
      refine ⟨⟨a1, fun i => ?_⟩, left_lt hm hk⟩
      dsimp only
      rw [a2 i]
      constructor
      · rintro ⟨k, q1, q2, q3⟩; exact ⟨k, q1, List.mem_cons_of_mem _ q2, q3⟩
      · rintro ⟨k, q1, q2, q3⟩
        rcases List.mem_cons.1 q2 with rfl | q2
        · exact absurd q3 ht
        · exact ⟨k, q1, q2, q3⟩
    · have l1 := (h.nonneg en.kl).2; have l2 := (h.nonneg en.ku).2
      have t1 := dp_at h hl (j := L + 1) (by omega) h1 en.kl
      have t2 := dp_at h hl (j := L + 1) (by omega) h1 en.ku
      refine asks_ok (fun _ => l1) ⟨fun hr => ?_, fun hr => asks_ok (fun _ => l2) ?_⟩
      · have := t1.1 (of_decide_eq_true hr)
        simp [hkx, this]
      · have hn : ¬ dp n level T.nodes key.2.1 = L + 1 := fun q => of_decide_eq_false hr (t1.2 q)
        by_cases q : dp n level T.nodes key.2.2 = L + 1
        · have := t2.2 q; simp [hkx, this, q]
        · have : ¬ (1 < key.2.2 ∧ (ix T.nodes key.2.2).1 = ix order (L + 1)) := fun c => q (t2.1 c)
          simp [hkx, this, q, hn]
end Go.Vc
