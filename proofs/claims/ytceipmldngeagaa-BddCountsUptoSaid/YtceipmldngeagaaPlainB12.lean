/- Scripts in plain words, part 1: a world is made; nodes are made on both sides. No program in sight. -/
import Derived.Test.YtceipmldngeagaaPlainB11
set_option linter.unusedVariables false
set_option linter.unusedSimpArgs false
set_option linter.unusedSectionVars false
namespace Go.Vc
variable {n : Int} {order level : List Int} {G : List Fn} {T : Tb}
theorem sameInts_ok {a b : List Int} {Q : Bool → Prop} (k : Q (decide (a = b))) : V_sameInts a b Q := by
  refine fun hl hm => ⟨fun hne => ?_, fun he => ?_⟩
  · have : ¬ a = b := fun e => hne (by rw [e])
    simpa [this] using k
  · have he : a.length = b.length := by omega
    refine ⟨fun x => 0 ≤ x ∧ x ≤ a.length ∧ ∀ j : Int, 0 ≤ j → j < x → ix a j = ix b j, fun x => (a.length - x).toNat, ⟨Int.le_refl 0, by omega, fun j a b => by omega⟩, fun x ⟨x0, x1, x2⟩ _ => ⟨fun hlt => ⟨⟨x0, hlt⟩, fun _ => ⟨⟨x0, by omega⟩, fun _ => ⟨fun hd => ?_, fun hd => ⟨by unfold I64; unfold Len at hl; omega, ⟨by omega, by omega, fun j a b => ?_⟩, by (try dsimp only); omega⟩⟩⟩⟩, fun hge => ?_⟩⟩
    · have : ¬ a = b := fun e => hd (by rw [e])
      simpa [this] using k
    · by_cases e : j = x
      · subst e; simpa using hd
      · exact x2 j a (by omega)
    · have : a = b := by
        apply List.ext_getElem?
        intro j
        by_cases hj : j < a.length
        · have p := ix_get (xs := a) (i := (j : Int)) (by omega) (by omega)
          have q := ix_get (xs := b) (i := (j : Int)) (by omega) (by omega)
          rw [Int.toNat_natCast] at p q
          rw [p, q, x2 j (by omega) (by omega)]
        · rw [List.getElem?_eq_none (by omega), List.getElem?_eq_none (by omega)]
      simpa [this] using k
theorem sameTruths_ok {a b : List Bool} {Q : Bool → Prop} (k : Q (decide (a = b))) : V_sameTruths a b Q := rSame_ok k
theorem Spoil_ok {l : List Int} (hl : l.length ≤ 9) {Q : Prop} (k : Q) : V_Spoil l Q := by
  refine ⟨fun s => 0 ≤ s.2 ∧ s.2 ≤ l.length ∧ s.1.length = l.length, fun s => (l.length - s.2).toNat, ⟨Int.le_refl 0, by (try dsimp only); omega, rfl⟩, ?_⟩
  rintro ⟨m, x⟩ ⟨x0, x1, x2⟩
  dsimp only at x0 x1 x2
  dsimp only
  exact fun _ => ⟨fun hlt => ⟨⟨x0, hlt⟩, by unfold I64; omega, ⟨by (try dsimp only); omega, by (try dsimp only); omega, by simpa using x2⟩, by (try dsimp only); omega⟩, fun hge => ⟨⟨by simp; omega, by simp; unfold maxLen; omega⟩, k⟩⟩
theorem Order_ok {nodes : Nds} {free : List Int} {ms memo : Mp} (hl : order.length ≤ 9) {Q : List Int → Prop} (k : Q order) : V_Order nodes free ms order level memo Q := by
  refine fun b hb => ⟨fun ht => ?_, fun _ => ⟨⟨by simp; omega, by simp; unfold maxLen; omega⟩, k⟩⟩
  rw [hb ht] at k; exact k
theorem pick_ok {c m : Int} (hc : I64 c) (hm : 0 < m) {Q : Int → Prop} (k : ∀ r, 0 ≤ r → r < m → Q r) : V_pick c m Q := by
  refine ⟨fun x => 0 ≤ x, fun x hx => ⟨by omega, k _ (Int.tmod_nonneg m hx) (Int.tmod_lt_of_pos x hm)⟩, fun hneg => ⟨by unfold I64 at *; omega, by unfold I64 at *; omega, by (try dsimp only); omega⟩, fun hpos => by (try dsimp only); omega⟩
/-! ### A new world -/
theorem rg_succ {x : Int} (h : 0 ≤ x) : rg 0 (x + 1) = rg 0 x ++ [x] := by
  unfold rg
  have : (x + 1 - 0).toNat = (x - 0).toNat + 1 := by omega
  rw [this, List.range_succ, List.map_append]; simp; omega
def ends (n : Int) : Nds := [(n, 0, 0), (n, 0, 0)]
theorem New_ok {n : Int} {Q : Option (Nds × List Int × Mp × List Int × List Int × Mp) → Option Int → Prop} (h1 : n < 0 ∨ 24 < n → Q none (some 5))
    (h2 : 0 ≤ n → n ≤ 24 → Q (some (ends n, [], [], rg 0 n, rg 0 n, [])) none) : V_New n Q := by
  refine ⟨h1, fun hn => ⟨⟨by omega, by omega, by omega⟩, fun s => 0 ≤ s.2.2 ∧ s.2.2 ≤ n ∧ s.1 = rg 0 s.2.2 ∧ s.2.1 = rg 0 s.2.2, fun s => (n - s.2.2).toNat, ⟨Int.le_refl 0, (by omega : (0 : Int) ≤ n), rfl, rfl⟩, ?_⟩⟩
  rintro ⟨c, d, x⟩ ⟨g1, g2, g3, g4⟩
  dsimp only at g1 g2 g3 g4
  subst g3 g4
  refine ⟨fun hlt => ?_, fun hge => ?_⟩
  · have hr : Room ((rg 0 x).length + [x].length) 8 := by
      rw [rg_length]
      exact ⟨by simp; omega, by simp; unfold maxLen; omega⟩
    have hx : (rg 0 x ++ [x], rg 0 x ++ [x]) = (rg 0 (x + 1), rg 0 (x + 1)) := by rw [rg_succ g1]
    refine ⟨fun s => s = (rg 0 (x + 1), rg 0 (x + 1)), ?_, ⟨hr, hr, hx⟩, ⟨hr, hr, hx⟩, hr, hr, hx⟩
    rintro _ rfl
    exact ⟨by unfold I64; omega, ⟨by (try dsimp only); omega, by (try dsimp only); omega, rfl, rfl⟩, by (try dsimp only); omega⟩
  · have hxn : x = n := by omega
    subst hxn
    exact ⟨⟨by decide, by decide⟩, ⟨by decide, by simp⟩, h2 (by omega) (by omega)⟩
def G0 (n : Int) : List Fn := (fun _ => false) :: (fun _ => true) :: (rg 0 n).map fun v => fun e => e v
def T0 (n : Int) : Tb := { nodes := ends n, free := [], ms := [], memo := [], F := fun i => fun _ => decide (i = 1), lim := [] }
theorem rg_ix {n i : Int} (h0 : 0 ≤ i) (h1 : i < n) : ix (rg 0 n) i = i := by
  have : i.toNat < (n - 0).toNat := by omega
  unfold ix rg
  rw [List.getD_eq_getElem?_getD, List.getElem?_map, List.getElem?_range this]; simp; omega
theorem start_ok (h0 : 0 ≤ n) (h9 : n ≤ 9) : Ok n (rg 0 n) (rg 0 n) (G0 n) (T0 n) := by
  have hl : ((rg 0 n).length : Int) = n := by rw [rg_length]; omega
  refine ⟨⟨h0, h9, hl, hl, fun l a b => by rw [rg_ix a b]; exact ⟨a, b, rg_ix a b⟩, fun l a b => by rw [rg_ix a b]; exact ⟨a, b, rg_ix a b⟩⟩, by simp [T0, ends], rfl, rfl, by simp [T0], fun k i hi => (by cases hi), fun i hi => (by cases hi), List.nodup_nil, fun f g k r hm => (by cases hm), List.nodup_nil, fun i hi => (by cases hi), rfl, fun i hi => ?_, fun g hg => ?_, ?_, ⟨fun b => ?_, fun v a b => ?_⟩, by simp [T0, ends, CAP]⟩
  · rcases hi with ⟨k, hk⟩ | hi
    · cases hk
    · cases hi
  · rcases List.mem_cons.1 hg with rfl | hg
    · exact Sup.const
    · rcases List.mem_cons.1 hg with rfl | hg
      · exact Sup.const
      · obtain ⟨v, hv, rfl⟩ := List.mem_map.1 hg
        exact Sup.var (mem_rg.1 hv).1 (mem_rg.1 hv).2
  · simp [G0, rg_length]; omega
  · cases b
    · exact Cl.self (by simp [G0])
    · exact Cl.self (by simp [G0])
  · exact Cl.self (List.mem_cons_of_mem _ (List.mem_cons_of_mem _ (List.mem_map.2 ⟨v, mem_rg.2 ⟨a, b⟩, rfl⟩)))
theorem world_ok (h0 : 0 ≤ n) (h9 : n ≤ 9) {Q : Option (Nds × List Int × Mp × List Int × List Int × Mp × Int × List Int × List (List Bool) × List Int × List (List Bool)) → Prop}
    (k : Q (some (ends n, [], [], rg 0 n, rg 0 n, [], n, [0, 1], [tt n fun _ => false, tt n fun _ => true], rg 0 n, []))) : V_world n Q := by
  refine New_ok (fun h => by omega) fun _ _ => ⟨fun h => (by cases h), ?_⟩
  intro y0 y1 y2 y3 y4 y5 hT
  cases hT
  refine ⟨fun b => b = false, fun b hb => ⟨fun ht => (by rw [hb] at ht; cases ht), fun _ => ?_⟩, fun hne => absurd rfl hne, fun _ => rfl⟩
  refine ⟨fun s => 0 ≤ s.2 ∧ s.2 ≤ n ∧ s.1 = rg 0 s.2, fun s => (n - s.2).toNat, ⟨Int.le_refl 0, h0, rfl⟩, ?_⟩
  rintro ⟨c, x⟩ ⟨x0, x1, hx⟩
  dsimp only at x0 x1 hx
  subst hx
  dsimp only
  refine ⟨fun hlt => ⟨⟨by rw [rg_length]; simp; omega, by rw [rg_length]; simp; unfold maxLen; omega⟩, by unfold I64; omega, ⟨by (try dsimp only); omega, by (try dsimp only); omega, (rg_succ x0).symm⟩, by (try dsimp only); omega⟩, fun hge => ?_⟩
  have hxn : x = n := by omega
  subst hxn
  unfold V_False_ V_True_
  exact rConst_ok h0 h9 (rConst_ok h0 h9 k)
/-! ### Steps that make nodes -/
def notF (f : Fn) : Fn := iteF f (fun _ => false) (fun _ => true)
theorem notF_at {f : Fn} {e : Env} : notF f e = !(f e) := by unfold notF iteF; cases f e <;> rfl
theorem exV_not {v : Int} {f : Fn} : exV v (notF f) = notF (allV v f) := by
  funext e
  rw [notF_at]
  unfold exV allV cof
  rw [notF_at, notF_at, Bool.not_and]
theorem exF_not : ∀ {vs : List Int} {f : Fn}, exF vs (notF f) = notF (vs.foldl (fun f v => allV v f) f)
  | [], f => rfl
  | v :: vs, f => by
    show exF vs (exV v (notF f)) = _
    rw [exV_not, exF_not]; rfl
theorem notF_notF {f : Fn} : notF (notF f) = f := by funext e; rw [notF_at, notF_at, Bool.not_not]
theorem Sup.exV {f : Fn} (h : Sup n f) (v : Int) : Sup n (exV v f) := fun e e' he => by unfold Go.Vc.exV; rw [h.cof v false e e' he, h.cof v true e e' he]
theorem Sup.allV {f : Fn} (h : Sup n f) (v : Int) : Sup n (allV v f) := fun e e' he => by unfold Go.Vc.allV; rw [h.cof v false e e' he, h.cof v true e e' he]
theorem Sup.exF {vs : List Int} : ∀ {f : Fn}, Sup n f → Sup n (exF vs f) := by
  induction vs with
  | nil => intro f h; exact h
  | cons v vs ih => intro f h; exact ih (h.exV v)
theorem Sup.not {f : Fn} (h : Sup n f) : Sup n (notF f) := h.ite Sup.const Sup.const
theorem Sup.letF {f g : Fn} (hf : Sup n f) (hg : Sup n g) (i : Int) : Sup n (letF i g f) := hg.ite (hf.cof i true) (hf.cof i false)
/-- One function more. -/
theorem Ok.one (h : Ok n order level G T) {f : Fn} (hf : Sup n f) (hl : G.length + 1 ≤ 290000000) : Ok n order level (G ++ [f]) T ∧ Cl (G ++ [f]) f :=
  ⟨h.more (by simpa using hf) (by simpa using hl), Cl.self (by simp)⟩
theorem Ok.many (h : Ok n order level G T) (hl : T.lim = []) {f : Int} (kf : T.kn f) {X : Fn → Fn} (hX : ∀ b, X (fun _ => b) = fun _ => b) (hs : ∀ g, Sup n g → Sup n (X g)) (hg : G.length + 511 ≤ 290000000) :
    ∃ K : List Fn, K.length ≤ 511 ∧ Ok n order level (G ++ K) T ∧ ∀ x, Rch T f x → Cl (G ++ K) (X (T.F x)) := by
  have hlen := ilist_len (T := T) 9 f
  refine ⟨((ilist T 9 f).filter fun x => decide (x ∈ T.ms.map (·.2))).map fun x => X (T.F x), ?_, ?_, ?_⟩
  · rw [List.length_map]
    exact Nat.le_trans (List.length_filter_le _ _) (by omega)
  · refine h.more (fun g hg' => ?_) ?_
    · obtain ⟨x, hx, rfl⟩ := List.mem_map.1 hg'
      have := of_decide_eq_true (List.mem_filter.1 hx).2
      obtain ⟨p, hp, e⟩ := List.mem_map.1 this
      exact hs _ (h.sup (kn_live ⟨p.1, e ▸ hp⟩))
    · rw [List.length_append, List.length_map]
      have := List.length_filter_le (fun x => decide (x ∈ T.ms.map (·.2))) (ilist T 9 f); omega
  · intro x hx
    have hb := h.dp_le hl kf
    have n9 := h.ord.n9
    have kx := hx.kn h hl kf
    rcases h.kn_case hl kx with rfl | rfl | ⟨k, k1, k2⟩
    · rw [h.f0, hX]; exact (h.bs.1 false).mono fun g hg => List.mem_append_left _ hg
    · rw [h.f1, hX]; exact (h.bs.1 true).mono fun g hg => List.mem_append_left _ hg
    · have := (ilist_mem h hl hx 9 kf (by omega)).resolve_left (by have := k2.i2; omega)
      refine Cl.self (List.mem_append_right _ (List.mem_map.2 ⟨x, List.mem_filter.2 ⟨this, ?_⟩, rfl⟩))
      exact decide_eq_true (List.mem_map.2 ⟨_, k1, rfl⟩)
/-- What is known of the lists of a world. -/
structure Wl (n : Int) (T : Tb) (wn : List Int) (wf : List (List Bool)) : Prop where
  kn : ∀ i ∈ wn, T.kn i
  fs : wf = wn.map fun i => tt n (T.F i)
  two : ∃ r, wn = 0 :: 1 :: r
theorem Wl.len {wn : List Int} {wf : List (List Bool)} (w : Wl n T wn wf) : wf.length = wn.length ∧ 2 ≤ wn.length := by
  obtain ⟨r, hr⟩ := w.two
  rw [w.fs, List.length_map, hr]; simp
theorem Wl.at_ {wn : List Int} {wf : List (List Bool)} (w : Wl n T wn wf) {r : Int} (h0 : 0 ≤ r) (h1 : r < wn.length) : T.kn (ix wn r) ∧ ix wf r = tt n (T.F (ix wn r)) ∧ In r wn ∧ In r wf := by
  have hm := List.mem_of_getElem? (ix_get h0 h1)
  refine ⟨w.kn _ hm, by rw [w.fs, ix_map h0 h1], ⟨h0, h1⟩, ⟨h0, by rw [w.len.1]; exact h1⟩⟩
theorem Wl.ext {T' : Tb} {wn : List Int} {wf : List (List Bool)} (w : Wl n T wn wf) (hk : ∀ i, T.kn i → T'.kn i ∧ T'.F i = T.F i) : Wl n T' wn wf := by
  refine ⟨fun i hi => (hk i (w.kn i hi)).1, ?_, w.two⟩
  rw [w.fs]
  exact List.map_congr_left fun i hi => by rw [(hk i (w.kn i hi)).2]
abbrev QM := Int → List Bool → Bool → Nds → List Int → Mp → Mp → Prop
theorem made_ok (h : Ok n order level G T) (hl : T.lim = []) {wn word : List Int} {wf given : List (List Bool)} (w : Wl n T wn wf) (hwl : wn.length ≤ 1000000) (hG : G.length + 513 ≤ 290000000) {Kind A B C : Int} {Vars : List Int} {At : List Bool} (hA : I64 A) (hB : I64 B) (hC : I64 C) (hV : Vars.length ≤ 1048576) {Q : QM}
    (k1 : ∀ G' T' v, Ok n order level G' T' → Ext T T' → T'.kn v → G'.length ≤ G.length + 513 → Q v (tt n (T'.F v)) true T'.nodes T'.free T'.ms T'.memo) (k0 : ∀ v f, Q v f false T.nodes T.free T.ms T.memo) :
    V_wmade T.nodes T.free T.ms order level T.memo n wn wf word given Kind A B C Vars At Q := by
  have n0 := h.ord.n0; have n9 := h.ord.n9
  have hw2 := w.len
  refine fun _ => pick_ok hA (by omega) fun a a0 a1 => pick_ok hB (by omega) fun b b0 b1 => pick_ok hC (by omega) fun c c0 c1 => ?_
  obtain ⟨ka, fa, ia, ia'⟩ := w.at_ a0 a1
  obtain ⟨kb, fb, ib, ib'⟩ := w.at_ b0 b1
  obtain ⟨kc, fc, ic, ic'⟩ := w.at_ c0 c1
  obtain ⟨kz, fz, _, iz⟩ := w.at_ (r := 0) (by omega) (by omega)
  obtain ⟨ko, fo, _, io⟩ := w.at_ (r := 1) (by omega) (by omega)
  obtain ⟨rr, hrr⟩ := w.two
  have hz : ix wn 0 = 0 := by rw [hrr]; rfl
  have ho : ix wn 1 = 1 := by rw [hrr]; rfl
  rw [hz, h.f0] at fz
  rw [ho, h.f1] at fo
  rw [fa, fb, fc, fz, fo]
  generalize ix wn a = x at ka fa ⊢
  generalize ix wn b = y at kb fb ⊢
  generalize ix wn c = z at kc fc ⊢
  have sx := h.sup ka; have sy := h.sup kb; have sz := h.sup kc
  have hf0 := h.f0; have hf1 := h.f1
  -- one 'Ite' more
  have ite : ∀ {G1 : List Fn} {U : Tb} (_ : Ok n order level G1 U) (_ : Ext T U) {f g i : Int} (_ : U.kn f) (_ : U.kn g) (_ : U.kn i) (_ : G1.length + 1 ≤ 290000000) {R : Int → Nds → List Int → Mp → Mp → Prop},
      (∀ r U', Ok n order level (G1 ++ [iteF (U.F f) (U.F g) (U.F i)]) U' → Ext T U' → Ext U U' → U'.kn r → U'.F r = iteF (U.F f) (U.F g) (U.F i) → R r U'.nodes U'.free U'.ms U'.memo) → V_Ite 10 U.nodes U.free U.ms order level U.memo f g i R :=
    fun {G1 U} okU xU {f g i} kf kg ki hg {R} kk => by
      have o := okU.one ((okU.sup kf).ite (okU.sup kg) (okU.sup ki)) hg
      exact Ite10 o.1 (xU.lim.trans hl) kf kg ki o.2 fun r U' ok' x' kr e => kk r U' ok' (xU.trans x') x' kr e
  refine ⟨ia, fun _ => ⟨ib, fun _ => ⟨ic, fun _ => ⟨ia', ib', ic', iz, io, ⟨by simp; omega, by simp; unfold maxLen; omega⟩, fun _ => ?_, fun _ => ⟨fun _ => ?_, fun _ => ⟨fun _ => ?_, fun _ => ⟨fun _ => ?_, fun _ => ⟨fun _ => ?_, fun _ => ⟨fun _ => ?_, fun _ => ?_⟩⟩⟩⟩⟩⟩⟩⟩⟩
  · refine Var_ok h hl fun r T' ok' x' em kr e => rVar_ok n0 n9 ?_
    rw [← e, ← em]; exact k1 G T' r ok' x' kr (by omega)
  · refine ⟨10, ite h (Ext.refl T) ka kb kc (by omega) fun r U ok' x' _ kr e => rIte_ok n0 n9 ?_⟩
    rw [← e]; exact k1 _ U r ok' x' kr (by simp)
  · refine ⟨10, ite h (Ext.refl T) ka kn_zero kn_one (by omega) fun r U ok' x' _ kr e => rIte_ok n0 n9 ?_⟩
    rw [hf0, hf1] at e
    rw [← e]; exact k1 _ U r ok' x' kr (by simp)
  · refine ⟨10, ite h (Ext.refl T) ka kb kn_zero (by omega) fun r U ok' x' _ kr e => rIte_ok n0 n9 ?_⟩
    rw [hf0] at e
    rw [← e]; exact k1 _ U r ok' x' kr (by simp)
  · refine ⟨10, ite h (Ext.refl T) ka kn_one kb (by omega) fun r U ok' x' _ kr e => rIte_ok n0 n9 ?_⟩
    rw [hf1] at e
    rw [← e]; exact k1 _ U r ok' x' kr (by simp)
  · refine ⟨10, ite h (Ext.refl T) kb kn_zero kn_one (by omega) fun r U okU xU _ kr e => ⟨10, ite okU xU (xU.kn _ ka) kr (xU.kn _ kb) (by simp; omega) fun r2 U2 ok2 x2 x12 kr2 e2 => ?_⟩⟩
    refine rIte_ok n0 n9 (rIte_ok n0 n9 ?_)
    rw [hf0, hf1] at e
    rw [e, xU.F _ ka, xU.F _ kb] at e2
    rw [← e2]; exact k1 _ U2 r2 ok2 x2 kr2 (by simp)
  · -- the same list of variables on both sides
    have over : ∀ (some : Bool) (F : Fn) (_ : Sup n F) {R : List Bool → Prop}, (∀ G : Fn, G = Vars.foldl (fun f v => if some then exV v f else allV v f) F → R (tt n G)) →
        VLoop (σ := List Bool × Int) (tt n F, 0) fun (f, i) next => (Len Vars → (i < (Vars.length : Int) → In i Vars ∧ (I64 (ix Vars i) → V_rOver n f (ix Vars i) some fun r => I64 (i + 1) ∧ next (r, i + 1))) ∧ (¬ (i < (Vars.length : Int)) → R f)) := by
      intro some F hF R kk
      refine ⟨fun s => 0 ≤ s.2 ∧ s.2 ≤ Vars.length ∧ ∃ G : Fn, Sup n G ∧ s.1 = tt n G ∧ G = (Vars.take s.2.toNat).foldl (fun f v => if some then exV v f else allV v f) F, fun s => (Vars.length - s.2).toNat, ⟨Int.le_refl 0, by (try dsimp only); omega, F, hF, rfl, rfl⟩, ?_⟩
      rintro ⟨f, i⟩ ⟨i0, i1, G, hG, hf, hGe⟩
      dsimp only at i0 i1 hf hGe
      subst hf
      dsimp only
      refine fun _ => ⟨fun hlt => ⟨⟨i0, hlt⟩, fun _ => rOver_ok n0 n9 hG ⟨by unfold I64; omega, ⟨by (try dsimp only); omega, by (try dsimp only); omega, _, ?_, rfl, ?_⟩, by (try dsimp only); omega⟩⟩, fun hge => ?_⟩
      · cases some
        · exact hG.allV _
        · exact hG.exV _
      · (try dsimp only)
        have : (i + 1).toNat = i.toNat + 1 := by omega
        rw [this, List.take_add_one, ix_get i0 hlt, List.foldl_append, ← hGe]; rfl
      · refine kk G ?_
        have : Vars.take i.toNat = Vars := List.take_of_length_le (by omega)
        rw [hGe, this]
    refine ⟨fun b => b = decide (Kind = 7 ∨ Kind = 8), fun b' hb => ⟨fun ht => ?_, fun ht => ⟨fun hk9 => ?_, fun _ => k0 _ _⟩⟩, fun h7 => by simp [h7], fun h7 => by simp [h7]⟩
    · refine ⟨fun s => ∃ G' T', s.1 = T'.nodes ∧ s.2.1 = T'.free ∧ s.2.2.1 = T'.ms ∧ s.2.2.2.1 = T'.memo ∧ Ok n order level G' T' ∧ Ext T T' ∧ T'.kn s.2.2.2.2 ∧ G'.length ≤ G.length + 513 ∧ T'.F s.2.2.2.2 = Vars.foldl (fun f v => if decide (Kind = 7) then exV v f else allV v f) (T.F x), ?_, fun h7 => ?_, fun h7 => ?_⟩
      · rintro ⟨nodes, free, ms, memo, v⟩ ⟨G', T', e1, e2, e3, e4, ok', x', kv, hg', hv⟩
        dsimp only at e1 e2 e3 e4 kv hv
        subst e1 e2 e3 e4
        dsimp only
        refine over (decide (Kind = 7)) (T.F x) sx (R := fun f => V_sameInts Vars Vars fun r => Q v f r T'.nodes T'.free T'.ms T'.memo) ?_
        intro F hF
        refine sameInts_ok ?_
        rw [decide_eq_true rfl, hF, ← hv]
        exact k1 G' T' v ok' x' kv hg'
      · obtain ⟨K, hK, okK, hc⟩ := h.many hl ka (X := exF Vars) (fun b => exF_const) (fun g hg => hg.exF) (by omega)
        refine Exists_ok okK hl ka hc fun r T' ok' x' kr e => ⟨_, T', rfl, rfl, rfl, rfl, ok', x', kr, by rw [List.length_append]; omega, ?_⟩
        (try dsimp only)
        rw [e, decide_eq_true h7]; rfl
      · refine ⟨10, ite h (Ext.refl T) ka kn_zero kn_one (by omega) fun r1 U1 ok1 x1 _ kr1 e1 => ?_⟩
        rw [hf0, hf1] at e1
        have hl1 := x1.lim.trans hl
        obtain ⟨K, hK, okK, hc⟩ := ok1.many hl1 kr1 (X := exF Vars) (fun b => exF_const) (fun g hg => hg.exF) (by simp; omega)
        refine Exists_ok okK hl1 kr1 hc fun r2 U2 ok2 x2 kr2 e2 => ⟨10, ite ok2 (x1.trans x2) kr2 kn_zero kn_one (by simp; omega) fun r3 U3 ok3 x3 _ kr3 e3 => ⟨_, U3, rfl, rfl, rfl, rfl, ok3, x3, kr3, by simp; omega, ?_⟩⟩
        rw [ok2.f0, ok2.f1] at e3
        (try dsimp only)
        rw [e3, e2, e1]
        show notF (exF Vars (notF (T.F x))) = _
        rw [exF_not, notF_notF, decide_eq_false h7]
        simp
    · obtain ⟨K, hK, okK, hc⟩ := h.many hl ka (X := letF B (T.F z)) (fun b => letF_const) (fun g hg => hg.letF sz B) (by omega)
      refine Let_ok okK hl ka kc hc fun r T' ok' x' kr e => rLet_ok n0 n9 sx ?_
      rw [← e]; exact k1 _ T' r ok' x' kr (by rw [List.length_append]; omega)
end Go.Vc
