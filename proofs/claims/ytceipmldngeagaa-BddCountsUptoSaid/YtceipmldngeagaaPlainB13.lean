/- Scripts in plain words, part 2: orders turned, nodes looked at, whole scripts. No program in sight. -/
import Derived.Test.YtceipmldngeagaaPlainB12
set_option linter.unusedVariables false
set_option linter.unusedSimpArgs false
set_option linter.unusedSectionVars false
namespace Go.Vc
variable {n : Int} {order level : List Int} {G : List Fn} {T : Tb}
/-- What was given out. -/
def Gv (n : Int) (T : Tb) (given : List (List Bool)) : Prop := ∃ gs : List Int, (∀ g ∈ gs, T.kn g) ∧ given = (gs.map T.F).map (tt n)
theorem Gv.ext {T' : Tb} {given : List (List Bool)} (g : Gv n T given) (hk : ∀ i, T.kn i → T'.kn i ∧ T'.F i = T.F i) : Gv n T' given := by
  obtain ⟨gs, a, b⟩ := g
  refine ⟨gs, fun i hi => (hk i (a i hi)).1, ?_⟩
  rw [b]; congr 1; exact List.map_congr_left fun i hi => (hk i (a i hi)).2.symm
theorem RF_live (h : Ok n order level G T) (hl : T.lim = []) {fs : List Int} (hf : ∀ f ∈ fs, T.kn f) {f : Fn} (hr : RF order (fs.map T.F) f) : ∃ x, T.kn x ∧ f = T.F x := by
  induction hr with
  | base hm => obtain ⟨x, hx, rfl⟩ := List.mem_map.1 hm; exact ⟨x, hf x hx, rfl⟩
  | step _ ht ih =>
    rename_i g v b _
    obtain ⟨x, kx, rfl⟩ := ih
    rcases h.kn_case hl kx with rfl | rfl | ⟨k, k1, k2⟩
    · rw [h.f0, top_const] at ht; cases ht
    · rw [h.f1, top_const] at ht; cases ht
    · rw [top_node h hl k2 kx] at ht
      obtain rfl := Option.some.inj ht
      have c0 := h.cofs hl k2 b
      cases b
      · exact ⟨k.2.1, k2.kl, by simpa using c0⟩
      · exact ⟨k.2.2, k2.ku, by simpa using c0⟩
theorem szF_le (h : Ok n order level G T) (hl : T.lim = []) {fs : List Int} (hf : ∀ f ∈ fs, T.kn f) : szF order (fs.map T.F) ≤ T.ms.length := by
  by_cases hx : ∃ l, SizeList order (fs.map T.F) l
  · obtain ⟨l, hl'⟩ := hx
    rw [hl'.sz]
    have := nodup_sub_len (m := T.ms.map fun p => T.F p.2) hl'.nd fun f hm => by
      obtain ⟨hr, ht⟩ := (hl'.mem f).1 hm
      obtain ⟨x, kx, rfl⟩ := RF_live h hl hf hr
      rcases h.kn_case hl kx with rfl | rfl | ⟨k, k1, k2⟩
      · rw [h.f0, top_const] at ht; cases ht
      · rw [h.f1, top_const] at ht; cases ht
      · exact List.mem_map.2 ⟨_, k1, rfl⟩
    simpa using this
  · unfold szF; rw [dif_neg hx]; omega
theorem keep_size {T' : Tb} (h : Ok n order level G T) (hl : T.lim = []) {fs : List Int} (hf : ∀ f ∈ fs, T.kn f) {s : List (Int × Int)} (hs : AllOk T fs s) (h' : Ok n order level G T') (hms : ∀ p, p ∈ T'.ms ↔ p ∈ T.ms ∧ p.2 ∈ keys s) : T'.ms.length = szF order (fs.map T.F) := by
  have e := (hs.sizeList h hl hf).sz
  rw [List.length_map] at e
  rw [e]
  have hnd : (T'.ms.map (·.2)).Nodup := by
    have key : ∀ l : Mp, (l.map (·.1)).Nodup → (∀ p ∈ l, p ∈ T'.ms) → (l.map (·.2)).Nodup := by
      intro l
      induction l with
      | nil => intro _ _; simp
      | cons p l ih =>
        intro h1 h2
        rw [List.map_cons, List.nodup_cons] at h1 ⊢
        refine ⟨fun hm => ?_, ih h1.2 fun q hq => h2 q (List.mem_cons_of_mem _ hq)⟩
        obtain ⟨q, hq, hqe⟩ := List.mem_map.1 hm
        have a1 := (h'.ent q.1 q.2 (h2 q (List.mem_cons_of_mem _ hq))).at_
        have a2 := (h'.ent p.1 p.2 (h2 p (by simp))).at_
        rw [hqe, a2] at a1
        exact h1.1 (List.mem_map.2 ⟨q, hq, a1.symm⟩)
    exact key T'.ms h'.keys fun p hp => hp
  have a := nodup_sub_len (m := keys s) hnd fun x hx => by obtain ⟨p, hp, rfl⟩ := List.mem_map.1 hx; exact ((hms p).1 hp).2
  have b := nodup_sub_len (m := T'.ms.map (·.2)) hs.io.nd fun x hx => by
    obtain ⟨p, hp, hpx⟩ := List.mem_map.1 hx
    obtain ⟨k, hk⟩ := (hs.io.one p hp).2
    have hpx : p.2 = 1 ∧ p.1 = x := ⟨(hs.io.one p hp).1, hpx⟩
    rw [hpx.2] at hk
    exact List.mem_map.2 ⟨_, (hms _).2 ⟨hk, hx⟩, rfl⟩
  simp at a b; omega
abbrev QT := Bool → Nds → List Int → Mp → List Int → List Int → Mp → List Int → List (List Bool) → List Int → List (List Bool) → Prop
theorem turned_ok (h : Ok n order level G T) (hl : T.lim = []) {wn : List Int} {wf given : List (List Bool)} (w : Wl n T wn wf) (g : Gv n T given) {Kind A B C : Int} {Vars : List Int} {At : List Bool} (hA : I64 A) (hB : I64 B) {Q : QT}
    (k : ∀ T' o' l' wn' wf' given', Ok n o' l' G T' → T'.lim = [] → Wl n T' wn' wf' → Gv n T' given' → wn'.length ≤ max wn.length 4 → given'.length ≤ max given.length 2 → Q true T'.nodes T'.free T'.ms o' l' T'.memo wn' wf' o' given') :
    V_turned T.nodes T.free T.ms order level T.memo n wn wf order given Kind A B C Vars At Q := by
  have n0 := h.ord.n0; have n9 := h.ord.n9; have hlo := h.ord.lo
  have hw2 := w.len
  refine fun _ => pick_ok hA (by omega) fun a a0 a1 => pick_ok hB (by omega) fun b b0 b1 => ?_
  obtain ⟨ka, fa, ia, ia'⟩ := w.at_ a0 a1
  obtain ⟨kb, fb, ib, ib'⟩ := w.at_ b0 b1
  have sa := h.sup ka; have sb := h.sup kb
  refine ⟨fun s => ∃ T' l', s.1 = T'.nodes ∧ s.2.1 = T'.free ∧ s.2.2.1 = T'.ms ∧ s.2.2.2.2.1 = l' ∧ s.2.2.2.2.2.1 = T'.memo ∧ Ok n s.2.2.2.1 l' G T' ∧ T'.lim = [] ∧ s.2.2.2.2.2.2.2.2.1 = s.2.2.2.1 ∧ Wl n T' s.2.2.2.2.2.2.1 s.2.2.2.2.2.2.2.1 ∧ Gv n T' s.2.2.2.2.2.2.2.2.2 ∧ s.2.2.2.2.2.2.1.length ≤ max wn.length 4 ∧ s.2.2.2.2.2.2.2.2.2.length ≤ max given.length 2, ?_, ?_⟩
  · rintro ⟨nodes, free, ms, o, l, memo, wn', wf', wo, gv⟩ ⟨T', l', e1, e2, e3, e4, e5, ok', hl', e6, w', g', c1, c2⟩
    dsimp only at e1 e2 e3 e4 e5 ok' e6 w' g' c1 c2
    subst e1 e2 e3 e4 e5 e6
    dsimp only
    have ho9 : wo.length ≤ 9 := by have := ok'.ord.lo; omega
    refine Order_ok ho9 (sameInts_ok (Spoil_ok ho9 ?_))
    rw [decide_eq_true rfl]
    exact k T' wo l wn' wf' gv ok' hl' w' g' c1 c2
  have same : ∃ T' l', T.nodes = T'.nodes ∧ T.free = T'.free ∧ T.ms = T'.ms ∧ level = l' ∧ T.memo = T'.memo ∧ Ok n order l' G T' ∧ T'.lim = [] ∧ order = order ∧ Wl n T' wn wf ∧ Gv n T' given ∧ wn.length ≤ max wn.length 4 ∧ given.length ≤ max given.length 2 :=
    ⟨T, level, rfl, rfl, rfl, rfl, rfl, h, hl, rfl, w, g, Nat.le_max_left _ _, Nat.le_max_left _ _⟩
  refine ⟨fun _ => ?_, fun _ => ⟨fun _ => ⟨ia, fun _ => ⟨ib, fun _ => ?_⟩⟩, fun _ => ⟨fun _ => ⟨ia, fun _ => ⟨ib, fun _ => ?_⟩⟩, fun _ => same⟩⟩⟩
  · refine Swap_ok h hl hA (fun hn => ?_) (fun h0 h1 T' ok' l' hk => ?_)
    · refine ⟨fun b => b = false, fun can hc => ?_, fun h0 => ⟨by unfold I64; omega, by (try dsimp only); rw [decide_eq_false]; omega⟩, fun _ => rfl⟩
      have hc : can = false := hc
      subst hc
      exact ⟨fun c => c = order, fun c hc => ⟨fun ht => by simp at ht, fun _ => by subst hc; exact same⟩, fun ht => (by cases ht), fun _ => rfl⟩
    · refine ⟨fun b => b = true, fun can hc => ?_, fun _ => ⟨by unfold I64; omega, by (try dsimp only); rw [decide_eq_true]; omega⟩, fun hn => absurd h0 hn⟩
      have hc : can = true := hc
      subst hc
      refine ⟨fun c => c = swO order A, fun c hc => ⟨fun ht => by simp at ht, fun _ => ?_⟩, fun _ => ⟨⟨h0, by omega⟩, fun _ => ⟨by unfold I64; omega, ⟨by omega, by omega⟩, fun _ => ⟨⟨h0, by omega⟩, by unfold I64; omega, ⟨by omega, by rw [List.length_set]; omega⟩, rfl⟩⟩⟩, fun ht => by cases ht⟩
      subst hc
      exact ⟨T', _, rfl, rfl, rfl, rfl, rfl, ok', l', rfl, w.ext hk, g.ext hk, Nat.le_max_left _ _, Nat.le_max_left _ _⟩
  · have hkn : ∀ f ∈ [ix wn a, ix wn b], T.kn f := fun f hf => by
      simp at hf; rcases hf with rfl | rfl
      · exact ka
      · exact kb
    refine Sift_ok h hl hkn fun U o l vs hU hsrt ho => ⟨ia', ib', ?_⟩
    rw [fa, fb]
    refine rSift_ok (fs := [ix wn a, ix wn b].map T.F) n0 n9 (fun f hf => ?_) (by simp) h.ord.prm fun vs' hs' => ?_
    · obtain ⟨i, hi, rfl⟩ := List.mem_map.1 hf; exact h.sup (hkn i hi)
    · rw [hs'.uniq hsrt, ← ho]
      have hk : ∀ i, T.kn i → U.kn i ∧ U.F i = T.F i := fun i hi => ⟨hU.kn i hi, hU.F i hi⟩
      exact ⟨U, l, rfl, rfl, rfl, rfl, rfl, hU.ok, hU.lim, rfl, w.ext hk, g.ext hk, Nat.le_max_left _ _, Nat.le_max_left _ _⟩
  · have hkn : ∀ f ∈ [ix wn a, ix wn b], T.kn f := fun f hf => by
      simp at hf; rcases hf with rfl | rfl
      · exact ka
      · exact kb
    refine Keep_ok h hl hkn fun s T' hs ok' en eF el em hms => ⟨ia, fun _ => ⟨ib, fun _ => ⟨ia', ib', ?_⟩⟩⟩
    have kk : ∀ f ∈ [ix wn a, ix wn b], T'.kn f := fun f hf => by
      rcases h.kn_case hl (hkn f hf) with rfl | rfl | ⟨k', k1, k2⟩
      · exact kn_zero
      · exact kn_one
      · exact kn_live ⟨k', (hms _).2 ⟨k1, (hs.has f hf).resolve_left (by have := k2.i2; omega)⟩⟩
    have hsz := keep_size h hl hkn hs ok' hms
    have hcap := ok'.cap el
    rw [fa, fb]
    unfold V_False_ V_True_
    refine rConst_ok n0 n9 ?_
    refine rConst_ok n0 n9 ?_
    refine ⟨by unfold Len; unfold CAP at hcap; omega, ?_⟩
    refine rSize_ok (fs := [ix wn a, ix wn b].map T.F) n0 n9 (fun f hf => ?_) (by simp) (fun v hv => h.ord.mem.1 hv) (by omega) ?_
    · obtain ⟨i, hi, rfl⟩ := List.mem_map.1 hf; exact h.sup (hkn i hi)
    · rw [hsz]
      refine ⟨fun hne => absurd rfl hne, fun _ => ⟨T', level, en.symm, rfl, rfl, rfl, rfl, ok', el, rfl, ⟨fun i hi => ?_, ?_, ⟨_, rfl⟩⟩, ⟨[ix wn a, ix wn b], kk, ?_⟩, ?_, ?_⟩⟩
      · simp at hi
        rcases hi with rfl | rfl | rfl | rfl
        · exact kn_zero
        · exact kn_one
        · exact kk _ (by simp)
        · exact kk _ (by simp)
      · simp only [List.map_cons, List.map_nil, eF, h.f0, h.f1]
      · simp only [List.map_cons, List.map_nil, eF]
      · exact Nat.le_max_right _ _
      · exact Nat.le_max_right _ _
theorem Sup.env {f : Fn} (h : Sup n f) {e e' : Env} (he : ∀ i, 0 ≤ i → i < n → e i = e' i) : f e = f e' := h e e' he
theorem pow_cast {i : Int} : (1 : Int) * 2 ^ i.toNat = ((2 ^ i.toNat : Nat) : Int) := by simp
abbrev QL := Bool → Nds → List Int → Mp → Mp → Prop
theorem looks_ok (h : Ok n order level G T) (hl : T.lim = []) {wn : List Int} {wf given : List (List Bool)} (w : Wl n T wn wf) (hwl : wn.length ≤ 1000000) {Kind A B C held : Int} {Vars : List Int} {At : List Bool} (hC : I64 C) (hh : 0 ≤ held) {Q : QL}
    (k : ∀ T', Ok n order level G T' → Ext T T' → Q true T'.nodes T'.free T'.ms T'.memo) :
    V_looks T.nodes T.free T.ms order level T.memo n wn wf order given Kind A B C Vars At held Q := by
  have n0 := h.ord.n0; have n9 := h.ord.n9; have hlo := h.ord.lo
  have hw2 := w.len
  have hp := pow_n n0 n9
  have ep : ((2 ^ n.toNat : Nat) : Int) = (2 : Int) ^ n.toNat := by simp
  obtain ⟨kv, fv, iv, iv'⟩ := w.at_ (r := (wn.length : Int) - 1) (by omega) (by omega)
  refine fun _ => ⟨by unfold I64; omega, iv, fun _ => ⟨iv', ?_⟩⟩
  rw [fv]
  generalize hve : ix wn ((wn.length : Int) - 1) = v at *
  have sv := h.sup kv
  refine ⟨fun _ => True, fun _ _ => ?_, ⟨hh, by omega⟩, fun _ => ?_, fun _ => trivial⟩
  · -- counts, then sizes
    refine ⟨fun s => ∃ T', s.1 = T'.nodes ∧ s.2.1 = T'.free ∧ s.2.2.1 = T'.ms ∧ s.2.2.2 = T'.memo ∧ Ok n order level G T' ∧ Ext T T', ?_, ⟨hh, by omega⟩, fun _ => ?_, fun _ => ⟨T, rfl, rfl, rfl, rfl, h, Ext.refl T⟩⟩
    · rintro ⟨nodes, free, ms, memo⟩ ⟨T', e1, e2, e3, e4, ok', x'⟩
      dsimp only at e1 e2 e3 e4
      subst e1 e2 e3 e4
      dsimp only
      refine ⟨⟨hh, by omega⟩, fun _ => pick_ok hC (by omega) fun b b0 b1 => ?_, fun _ => k T' ok' x'⟩
      obtain ⟨kb, fb, ib, ib'⟩ := w.at_ b0 (by omega)
      have hkn : ∀ f ∈ [v, ix wn b], T.kn f := fun f hf => by
        simp at hf; rcases hf with rfl | rfl
        · exact kv
        · exact kb
      refine ⟨ib, fun _ => Size_sz ok' (x'.lim.trans hl) (fun f hf => x'.kn f (hkn f hf)) ⟨ib', ?_⟩⟩
      rw [fb]
      refine rSize_ok (fs := [v, ix wn b].map T.F) n0 n9 (fun f hf => ?_) (by simp) (fun v hv => h.ord.mem.1 hv) (by omega) ?_
      · obtain ⟨i, hi, rfl⟩ := List.mem_map.1 hf; exact h.sup (hkn i hi)
      · have : [v, ix wn b].map T'.F = [v, ix wn b].map T.F := List.map_congr_left fun f hf => x'.F f (hkn f hf)
        rw [this, decide_eq_true rfl]
        exact k T' ok' x'
    · refine Count_ok h hl kv (rCount_ok h.ord ?_)
      have fin : ∀ T', Ok n order level G T' → Ext T T' → ∃ T'', T'.nodes = T''.nodes ∧ T'.free = T''.free ∧ T'.ms = T''.ms ∧ T'.memo = T''.memo ∧ Ok n order level G T'' ∧ Ext T T'' := fun T' a b => ⟨T', rfl, rfl, rfl, rfl, a, b⟩
      refine First_ok h hl kv (fun hz => rFirst_ok h.ord sv (fun _ => sameTruths_ok ?_) fun hn => absurd hz hn) fun hn T' ok' x' => rFirst_ok h.ord sv (fun hz => absurd hz hn) fun _ => sameTruths_ok ?_
      · refine ⟨fun b => b = false, fun b hb => ⟨fun ht => (by rw [hb] at ht; cases ht), fun _ => fin T h (Ext.refl T)⟩, fun hne => absurd rfl hne, fun _ => ⟨fun hf => (by simp at hf), fun _ => by simp⟩⟩
      · refine ⟨fun b => b = false, fun b hb => ⟨fun ht => (by rw [hb] at ht; cases ht), fun _ => fin T' ok' x'⟩, fun hne => absurd rfl hne, fun _ => ⟨fun hf => (by simp at hf), fun _ => by simp⟩⟩
  · -- what it is with the values
    refine ⟨fun s => 0 ≤ s.2 ∧ s.2 ≤ n ∧ s.2 ≤ At.length ∧ s.1 = (enc s.2.toNat (envOf At) : Nat), fun s => (n - s.2).toNat, ⟨Int.le_refl 0, n0, by (try dsimp only); omega, rfl⟩, ?_⟩
    rintro ⟨x, i⟩ ⟨i0, i1, i2, hx⟩
    dsimp only at i0 i1 i2 hx
    subst hx
    dsimp only
    have henc := enc_lt i.toNat (envOf At)
    refine ⟨fun b => b = decide (i < n ∧ i < At.length), fun b hb => ⟨fun ht => ?_, fun ht => ?_⟩, fun hin hL => by (try dsimp only); simp [hin], fun hin => by (try dsimp only); simp [hin]⟩
    · rw [hb] at ht
      obtain ⟨hin, hiA⟩ := of_decide_eq_true ht
      have hi1 : (i + 1).toNat = i.toNat + 1 := by omega
      have hpi : 2 ^ i.toNat ≤ 2 ^ 9 := Nat.pow_le_pow_right (by omega) (by omega)
      have hev : envOf At (i.toNat : Int) = ix At i := by
        have : ((i.toNat : Nat) : Int) = i := by omega
        rw [this]; simp [envOf, i0, hiA]
      refine ⟨fun x' => x' = (enc (i + 1).toNat (envOf At) : Nat), fun x' hx' => ⟨by unfold I64; omega, ⟨by (try dsimp only); omega, by (try dsimp only); omega, by (try dsimp only); omega, hx'⟩, by (try dsimp only); omega⟩, ⟨i0, hiA⟩, fun ht => ?_, fun hf => ?_⟩
      · rw [pow_cast]
        have hpos : 0 < 2 ^ i.toNat := Nat.two_pow_pos _
        refine ⟨⟨i0, by omega, by unfold I64; omega⟩, ⟨Int.natCast_nonneg _, Int.natCast_nonneg _⟩, ?_⟩
        (try dsimp only)
        rw [hi1]
        show nat2 _ _ _ = ((enc i.toNat (envOf At) ||| (if envOf At (i.toNat : Int) then 2 ^ i.toNat else 0) : Nat) : Int)
        rw [hev, ht]
        unfold nat2
        rw [Int.toNat_natCast, Int.toNat_natCast]; rfl
      · (try dsimp only)
        rw [hi1]
        show _ = ((enc i.toNat (envOf At) ||| (if envOf At (i.toNat : Int) then 2 ^ i.toNat else 0) : Nat) : Int)
        rw [hev, hf]; simp
    · rw [hb] at ht
      have hstop := of_decide_eq_false ht
      have hlt : enc i.toNat (envOf At) < 2 ^ n.toNat := Nat.lt_of_lt_of_le henc (Nat.pow_le_pow_right (by omega) (by omega))
      have hev : T.F v (envOf At) = T.F v (bits (enc i.toNat (envOf At))) := sv.env fun j a b => by
        unfold bits
        rw [enc_bit]
        have hj : ((j.toNat : Nat) : Int) = j := by omega
        rw [hj]
        by_cases hji : j.toNat < i.toNat
        · simp [a, hji]
        · have : ¬ j < (At.length : Int) := by omega
          simp [envOf, this]
      refine Eval_ok h hl kv ⟨⟨Int.natCast_nonneg _, by rw [tt_length]; omega⟩, ?_⟩
      rw [tt_ix (Int.natCast_nonneg _) (by omega), Int.toNat_natCast, ← hev]
      refine ⟨fun ht => (by simp at ht), fun _ => ?_⟩
      refine ⟨fun x => 0 ≤ x ∧ x ≤ (wn.length : Int) - 1, fun x => ((wn.length : Int) - x).toNat, ⟨Int.le_refl 0, by omega⟩, fun x ⟨x0, x1⟩ => ⟨fun hxlt => ?_, fun _ => trivial⟩⟩
      obtain ⟨kx, fx, ixx, ixx'⟩ := w.at_ x0 (by omega)
      refine ⟨ixx', ?_⟩
      rw [fx]
      refine rSame_ok ⟨ixx, fun _ => ?_⟩
      have : decide (tt n (T.F (ix wn x)) = tt n (T.F v)) = decide (ix wn x = v) := by
        rw [decide_eq_decide]
        exact ⟨fun e => h.inj hl kx kv (tt_inj (h.sup kx) sv e), fun e => by rw [e]⟩
      rw [this]
      exact ⟨fun ht => (by simp at ht), fun _ => ⟨by unfold I64; omega, ⟨by omega, by omega⟩, by (try dsimp only); omega⟩⟩
theorem whole_ok (h : Ok n order level G T) (hl : T.lim = []) {wn : List Int} {wf given : List (List Bool)} (w : Wl n T wn wf) (hwl : wn.length ≤ 1000000) (g : Gv n T given) (hgl : given.length ≤ 290000000) {held : Int} (hh : 0 ≤ held) {Q : Bool → Prop} (k : Q true) :
    V_whole T.nodes T.free T.ms order level T.memo n wn wf order given held Q := by
  have n0 := h.ord.n0; have n9 := h.ord.n9; have hlo := h.ord.lo
  have hp := pow_n n0 n9
  have ep : ((2 ^ n.toNat : Nat) : Int) = (2 : Int) ^ n.toNat := by simp
  refine ⟨fun _ => True, fun _ _ => ?_, ⟨hh, by omega⟩, fun _ => ?_, fun _ => trivial⟩
  · refine ⟨fun i => 0 ≤ i ∧ i ≤ wn.length, fun i => (wn.length - i).toNat, ⟨Int.le_refl 0, by omega⟩, fun i ⟨i0, i1⟩ => ?_⟩
    refine ⟨fun b => b = true → i < wn.length, fun b hb => ⟨fun ht => ?_, fun _ => k⟩, ⟨hh, by omega⟩, fun _ _ ht => of_decide_eq_true ht, fun _ ht => by cases ht⟩
    have hlt := hb ht
    obtain ⟨ki, fi, ii, ii'⟩ := w.at_ i0 hlt
    refine ⟨⟨n0, by omega, by omega⟩, ?_⟩
    have hnn : (n.toNat : Int) = n := by omega
    refine ⟨fun s => Bld n (fun j => i.toNat.testBit j.toNat) s.1 s.2, fun s => (n - s.2).toNat, Bld.init n0, ?_⟩
    rintro ⟨at_, x⟩ hbld
    dsimp only at hbld
    have x0 := hbld.k0; have xl := hbld.len
    refine ⟨fun hxn => ⟨⟨x0, by omega⟩, ⟨?_, by omega⟩, ⟨x0, by rw [xl]; exact hxn⟩, by unfold I64; omega, hbld.step hxn (bit_test n0 n9 i0), by (try dsimp only); omega⟩, fun hge => ?_⟩
    · rw [fdiv_nat i0]; exact Int.natCast_nonneg _
    · have hxe : x = n := by have := hbld.km; omega
      have hix := hbld.at_
      rw [hxe] at hix
      have hmod : i.tmod ((1 : Int) * 2 ^ n.toNat) = ((i.toNat % 2 ^ n.toNat : Nat) : Int) := by
        rw [pow_cast]
        obtain ⟨m, rfl⟩ := Int.eq_ofNat_of_zero_le i0
        rw [Int.tmod_eq_emod_of_nonneg (by omega)]; simp
      have hml : i.toNat % 2 ^ n.toNat < 2 ^ n.toNat := Nat.mod_lt _ (by omega)
      have hev : T.F (ix wn i) (envOf at_) = T.F (ix wn i) (bits (i.toNat % 2 ^ n.toNat)) := (h.sup ki).env fun j a b => by
        have hjl : j < (at_.length : Int) := by omega
        unfold bits
        rw [Nat.testBit_mod_two_pow]
        have : j.toNat < n.toNat := by omega
        simp [envOf, a, hjl, hix j a b, this]
      refine ⟨ii, fun _ => Eval_ok h hl ki ⟨ii', ⟨n0, by omega, (shl1 n0 n9).1.2.2⟩, by rw [pow_cast]; omega, ?_⟩⟩
      rw [fi, hmod]
      refine ⟨⟨Int.natCast_nonneg _, by rw [tt_length]; omega⟩, ?_⟩
      rw [tt_ix (Int.natCast_nonneg _) (by omega), Int.toNat_natCast, ← hev]
      exact ⟨fun ht => (by simp at ht), fun _ => ⟨by unfold I64; omega, ⟨by omega, by omega⟩, by (try dsimp only); omega⟩⟩
  · obtain ⟨gs, hgk, hge⟩ := g
    have hcap := h.cap hl
    refine ⟨by unfold Len; unfold CAP at hcap; omega, ?_⟩
    rw [hge]
    refine rSize_ok n0 n9 (fun f hf => ?_) (by rw [hge] at hgl; simpa using hgl) (fun v hv => h.ord.mem.1 hv) (by omega) ?_
    · obtain ⟨i, hi, rfl⟩ := List.mem_map.1 hf; exact h.sup (hgk i hi)
    · have := szF_le h hl hgk
      exact ⟨fun hlt => by omega, fun _ => trivial⟩
abbrev Ops := List (Int × Int × Int × Int × List Int × List Bool)
theorem plays_ok {n held : Int} {script : Ops} (hs : script.length ≤ 149796) (hv : ∀ o ∈ script, o.2.2.2.2.1.length ≤ 1048576) (hh : 0 ≤ held) {Q : Bool → Prop} (k : Q true) : V_plays n script held Q := by
  refine ⟨fun _ => k, fun hn => ?_⟩
  have n0 : 0 ≤ n := by omega
  have n9 : n ≤ 9 := by omega
  refine world_ok n0 n9 ⟨fun hf => (by cases hf), ?_⟩
  intro a0 a1 a2 a3 a4 a5 a6 a7 a8 a9 a10 he
  cases he
  refine ⟨fun s => 0 ≤ s.2.2.2.2.2.2.2.2.2.2 ∧ s.2.2.2.2.2.2.2.2.2.2 ≤ script.length ∧ ∃ T G, s.1 = T.nodes ∧ s.2.1 = T.free ∧ s.2.2.1 = T.ms ∧ s.2.2.2.2.2.1 = T.memo ∧ Ok n s.2.2.2.1 s.2.2.2.2.1 G T ∧ T.lim = [] ∧ s.2.2.2.2.2.2.2.2.1 = s.2.2.2.1 ∧ Wl n T s.2.2.2.2.2.2.1 s.2.2.2.2.2.2.2.1 ∧ Gv n T s.2.2.2.2.2.2.2.2.2.1 ∧
      (s.2.2.2.2.2.2.1.length : Int) ≤ 4 + s.2.2.2.2.2.2.2.2.2.2 ∧ (s.2.2.2.2.2.2.2.2.2.1.length : Int) ≤ 2 + s.2.2.2.2.2.2.2.2.2.2 ∧ (G.length : Int) ≤ 11 + 513 * s.2.2.2.2.2.2.2.2.2.2,
    fun s => (script.length - s.2.2.2.2.2.2.2.2.2.2).toNat, ⟨Int.le_refl 0, by (try dsimp only); omega, T0 n, G0 n, rfl, rfl, rfl, rfl, start_ok n0 n9, rfl, rfl, ⟨fun i hi => ?_, rfl, ⟨[], rfl⟩⟩, ⟨[], fun _ h => (by cases h), rfl⟩, by simp, by simp, ?_⟩, ?_⟩
  · simp at hi; rcases hi with rfl | rfl
    · exact kn_zero
    · exact kn_one
  · simp [G0, rg_length]; omega
  rintro ⟨nodes, free, ms, o, l, memo, wn, wf, wo, gv, i⟩ ⟨i0, i1, T, G, e1, e2, e3, e4, ok, hl, e5, w, g, c1, c2, c3⟩
  dsimp only at i0 i1 e1 e2 e3 e4 ok e5 w g c1 c2 c3
  subst e1 e2 e3 e4 e5
  dsimp only
  refine fun _ => ⟨fun hlt => ?_, fun hge => whole_ok ok hl w (by omega) g (by omega) hh k⟩
  have hop := hv _ (List.mem_of_getElem? (ix_get i0 hlt))
  refine ⟨fun s => ∃ T G, s.1 = T.nodes ∧ s.2.1 = T.free ∧ s.2.2.1 = T.ms ∧ s.2.2.2.2.2.1 = T.memo ∧ Ok n s.2.2.2.1 s.2.2.2.2.1 G T ∧ T.lim = [] ∧ s.2.2.2.2.2.2.2.2.1 = s.2.2.2.1 ∧ Wl n T s.2.2.2.2.2.2.1 s.2.2.2.2.2.2.2.1 ∧ Gv n T s.2.2.2.2.2.2.2.2.2 ∧
      (s.2.2.2.2.2.2.1.length : Int) ≤ 4 + (i + 1) ∧ (s.2.2.2.2.2.2.2.2.2.length : Int) ≤ 2 + (i + 1) ∧ (G.length : Int) ≤ 11 + 513 * (i + 1), ?_, ⟨i0, hlt⟩, fun hK hA hB hC => ⟨fun hsw => ?_, fun hmk => ?_⟩⟩
  · rintro ⟨nodes, free, ms, o, l, memo, wn, wf, wo, gv⟩ ⟨T, G, e1, e2, e3, e4, ok, hl, e5, w, g, c1, c2, c3⟩
    dsimp only at e1 e2 e3 e4 ok e5 w g c1 c2 c3
    exact ⟨by unfold I64; omega, ⟨by (try dsimp only); omega, by (try dsimp only); omega, T, G, e1, e2, e3, e4, ok, hl, e5, w, g, c1, c2, c3⟩, by (try dsimp only); omega⟩
  · refine turned_ok ok hl w g hA hB fun T' o' l' wn' wf' gv' ok' hl' w' g' d1 d2 => ?_
    refine ⟨fun b => b = false, fun b hb => ⟨fun ht => (by rw [hb] at ht; cases ht), fun _ => ?_⟩, fun ht => (by simp at ht), fun _ => rfl⟩
    exact ⟨T', G, rfl, rfl, rfl, rfl, ok', hl', rfl, w', g', by (try dsimp only); omega, by (try dsimp only); omega, by omega⟩
  · refine made_ok ok hl w (by omega) (by omega) hA hB hC hop (fun G' T' v ok' x' kv hg' => ?_) fun v f => ?_
    · have hk : ∀ i, T.kn i → T'.kn i ∧ T'.F i = T.F i := fun i hi => ⟨x'.kn i hi, x'.F i hi⟩
      have w' := w.ext hk; have g' := g.ext hk
      have hl' := x'.lim.trans hl
      have w2 : Wl n T' (wn ++ [v]) (wf ++ [tt n (T'.F v)]) := by
        refine ⟨fun i hi => ?_, ?_, ?_⟩
        · rcases List.mem_append.1 hi with hi | hi
          · exact w'.kn i hi
          · simp at hi; subst hi; exact kv
        · rw [w'.fs]; simp
        · obtain ⟨r, hr⟩ := w'.two; exact ⟨r ++ [v], by rw [hr]; rfl⟩
      have g2 : Gv n T' (gv ++ [tt n (T'.F v)]) := by
        obtain ⟨gs, q1, q2⟩ := g'
        refine ⟨gs ++ [v], fun i hi => ?_, by rw [q2]; simp⟩
        rcases List.mem_append.1 hi with hi | hi
        · exact q1 i hi
        · simp at hi; subst hi; exact kv
      have hwf := w.len.1
      refine ⟨fun ht => (by simp at ht), fun _ => ⟨⟨by simp; omega, by simp; unfold maxLen; omega⟩, ⟨by simp; omega, by simp; unfold maxLen; omega⟩, ⟨by simp; omega, by simp; unfold maxLen; omega⟩, looks_ok ok' hl' w2 (by simp; omega) hC hh fun T'' ok'' x'' => ?_⟩⟩
      have hk2 : ∀ i, T'.kn i → T''.kn i ∧ T''.F i = T'.F i := fun i hi => ⟨x''.kn i hi, x''.F i hi⟩
      exact ⟨fun ht => (by simp at ht), fun _ => ⟨T'', G', rfl, rfl, rfl, rfl, ok'', x''.lim.trans hl', rfl, w2.ext hk2, g2.ext hk2, by simp; omega, by simp; omega, by omega⟩⟩
    · exact ⟨fun _ => ⟨T, G, rfl, rfl, rfl, rfl, ok, hl, rfl, w, g, by (try dsimp only); omega, by (try dsimp only); omega, by omega⟩, fun ht => by simp at ht⟩
end Go.Vc
