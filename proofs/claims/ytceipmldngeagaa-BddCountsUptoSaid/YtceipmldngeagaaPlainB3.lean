/- Diagrams in plain words, part 3: variables, 'and', 'or', values let or taken for all; what a node is with values; its first values. No program in sight. -/
import Derived.Test.YtceipmldngeagaaPlainB2
set_option linter.unusedVariables false
set_option linter.unusedSimpArgs false
namespace Go.Vc
variable {n : Int} {order level : List Int} {G : List Fn} {T : Tb}
def varF (n i : Int) : Fn := fun e => decide (0 ≤ i ∧ i < n) && e i
theorem sel01 {v : Int} : sel v (fun _ => false) (fun _ => true) = fun e => e v := by funext e; unfold sel; cases e v <;> rfl
theorem fuel_ok (h : Ok n order level G T) (hl : T.lim = []) {f : Int} (hf : T.kn f) : n - dp n level T.nodes f < (10 : Nat) := by
  have := (h.dp_le hl hf).1; have := h.ord.n9; omega
theorem fuel3 (h : Ok n order level G T) (hl : T.lim = []) {f g k : Int} (hf : T.kn f) (hg : T.kn g) (hk : T.kn k) : n - min (min (dp n level T.nodes f) (dp n level T.nodes g)) (dp n level T.nodes k) < (10 : Nat) := by
  have := (h.dp_le hl hf).1; have := (h.dp_le hl hg).1; have := (h.dp_le hl hk).1; have := h.ord.n9; omega
theorem dp0 {nodes : Nds} : dp n level nodes 0 = n := dp_end (by omega)
theorem dp1 {nodes : Nds} : dp n level nodes 1 = n := dp_end (by omega)
theorem Is_ok {nodes : Nds} {free : List Int} {ms memo : Mp} (ho : Ord n order level) {i : Int} {Q : Bool → Prop} (h : Q (decide (0 ≤ i ∧ i < n))) : V_Is nodes free ms order level memo i Q := by
  refine ⟨fun b => b = decide (0 ≤ i ∧ i < n), fun b hb => by rw [hb]; exact h, fun h0 _ => by rw [ho.lo]; simp [h0], fun h0 => by simp [h0]⟩
/-- A node that asks one variable. -/
theorem mkvar_ok (h : Ok n order level G T) (hl : T.lim = []) {v : Int} (hv : 0 ≤ v ∧ v < n) {Q : Int → Nds → List Int → Mp → Prop}
    (k : ∀ r T', Ok n order level G T' → Ext T T' → T'.memo = T.memo → T'.kn r → T'.F r = (fun e => e v) → Q r T'.nodes T'.free T'.ms) : V_make T.nodes T.free T.ms order level T.memo v 0 1 Q := by
  have lv := h.ord.lv v hv.1 hv.2
  have hs : sel v (T.F 0) (T.F 1) = fun e => e v := by rw [h.f0, h.f1, sel01]
  exact make_ok h (h.cap hl) hv kn_zero kn_one (by rw [dp0]; omega) (by rw [dp1]; omega) (by rw [hs]; exact h.bs.2 v hv.1 hv.2) fun r T' o x em kr e _ _ => k r T' o x em kr (by rw [e, hs])
theorem Var_ok (h : Ok n order level G T) (hl : T.lim = []) {i : Int} {Q : Int → Nds → List Int → Mp → Prop}
    (k : ∀ r T', Ok n order level G T' → Ext T T' → T'.memo = T.memo → T'.kn r → T'.F r = varF n i → Q r T'.nodes T'.free T'.ms) : V_Var T.nodes T.free T.ms order level T.memo i Q := by
  refine Is_ok h.ord ⟨fun hi => ?_, fun hi => ?_⟩
  · have hi : ¬ (0 ≤ i ∧ i < n) := by intro hc; simp [hc] at hi
    exact k 0 T h (Ext.refl T) rfl kn_zero (by rw [h.f0]; funext e; simp [varF, hi])
  · have hi : 0 ≤ i ∧ i < n := by simpa using hi
    exact mkvar_ok h hl hi fun r T' o x em kr e => k r T' o x em kr (by rw [e]; funext e; simp [varF, hi])
theorem Ite10 (h : Ok n order level G T) (hl : T.lim = []) {f g i : Int} (kf : T.kn f) (kg : T.kn g) (ki : T.kn i) (hc : Cl G (iteF (T.F f) (T.F g) (T.F i))) {Q : Int → Nds → List Int → Mp → Mp → Prop}
    (k : ∀ r T', Ok n order level G T' → Ext T T' → T'.kn r → T'.F r = iteF (T.F f) (T.F g) (T.F i) → Q r T'.nodes T'.free T'.ms T'.memo) : V_Ite 10 T.nodes T.free T.ms order level T.memo f g i Q :=
  Ite_ok 10 h hl kf kg ki (fuel3 h hl kf kg ki) hc fun r T' o x kr e _ => k r T' o x kr e
theorem Index_ok {s : List Int} {v : Int} {Q : Int → Prop} (h : ∀ r, (0 ≤ r ↔ v ∈ s) → Q r) : V_IndexI s v Q := by
  refine fun hs => ⟨fun x => 0 ≤ x ∧ x ≤ s.length ∧ ∀ j : Nat, j < x.toNat → s[j]? ≠ some v, fun x => (s.length - x).toNat, ⟨Int.le_refl 0, by omega, fun j hj => absurd hj (by simp)⟩, fun x hx => ?_⟩
  obtain ⟨h0, h1, h2⟩ := hx
  refine ⟨fun hlt => ⟨⟨h0, hlt⟩, fun _ => ⟨fun e => ?_, fun e => ?_⟩⟩, fun hge => ?_⟩
  · refine h x ⟨fun _ => ?_, fun _ => h0⟩
    have := ix_get h0 hlt
    rw [← e] at this
    exact List.mem_of_getElem? this
  · refine ⟨by unfold I64; unfold Len at hs; omega, ⟨by omega, by omega, fun j hj => ?_⟩, by dsimp only; omega⟩
    by_cases he : j = x.toNat
    · subst he; rw [ix_get h0 hlt]; intro e'; exact e (Option.some.inj e').symm
    · exact h2 j (by omega)
  · refine h _ ⟨fun h => by omega, fun hm => ?_⟩
    obtain ⟨j, hj, e⟩ := List.mem_iff_getElem.1 hm
    exact absurd (by rw [List.getElem?_eq_getElem hj, e]) (h2 j (by omega))
/-! ### All nodes below a node turned -/
def seenOk (X : Fn → Fn) (T : Tb) (seen : List (Int × Int)) : Prop := ∀ x r, (x, r) ∈ seen → T.kn x ∧ T.kn r ∧ T.F r = X (T.F x)
theorem seenOk.ext {X : Fn → Fn} {T T' : Tb} {seen : List (Int × Int)} (h : seenOk X T seen) (x : Ext T T') : seenOk X T' seen := fun y r hm => by
  obtain ⟨a, b, c⟩ := h y r hm
  exact ⟨x.kn _ a, x.kn _ b, by rw [x.F _ a, x.F _ b, c]⟩
theorem rst_cof (f : Fn) (v : Int) (b : Bool) : cof f v b = rst (fun i => if i = v then some b else none) f := by
  funext e; unfold cof rst upd; congr 1; funext i; by_cases h : i = v <;> simp [h]
theorem rst_rst (p q : Int → Option Bool) (g : Fn) : rst p (rst q g) = rst (fun i => (q i).or (p i)) g := by
  have key : ∀ (a b : Option Bool) (d : Bool), a.getD (b.getD d) = (a.or b).getD d := by intro a b d; cases a <;> rfl
  funext e; unfold rst; congr 1; funext i; exact key _ _ _
theorem rst_none (g : Fn) : rst (fun _ => none) g = g := rfl
inductive Rch (T : Tb) : Int → Int → Prop
  | self {f} : Rch T f f
  | low {f x k} : (k, f) ∈ T.ms → Rch T k.2.1 x → Rch T f x
  | up {f x k} : (k, f) ∈ T.ms → Rch T k.2.2 x → Rch T f x
theorem Rch.trans {f g x : Int} (h : Rch T f g) (k : Rch T g x) : Rch T f x := by
  induction h with
  | self => exact k
  | low h1 _ ih => exact .low h1 (ih k)
  | up h1 _ ih => exact .up h1 (ih k)
theorem Rch.kn (h : Ok n order level G T) (hl : T.lim = []) {f x : Int} (hr : Rch T f x) (hf : T.kn f) : T.kn x := by
  induction hr with
  | self => exact hf
  | low h1 _ ih => exact ih (h.ent _ _ h1).kl
  | up h1 _ ih => exact ih (h.ent _ _ h1).ku
theorem Ext.rch {T' : Tb} (h : Ok n order level G T) (hl : T.lim = []) (h' : Ok n order level G T') (x : Ext T T') {f y : Int} (hr : Rch T' f y) (hf : T.kn f) : T.kn y ∧ Rch T f y := by
  induction hr with
  | self => exact ⟨hf, .self⟩
  | low h1 _ ih =>
    have e := h'.ent _ _ h1
    rcases h.kn_case hl hf with rfl | rfl | ⟨k', k1, k2⟩
    · have := e.i2; omega
    · have := e.i2; omega
    · obtain rfl := (k2.at_.symm.trans (x.nd _ hf).symm).trans e.at_
      have := ih k2.kl
      exact ⟨this.1, .low k1 this.2⟩
  | up h1 _ ih =>
    have e := h'.ent _ _ h1
    rcases h.kn_case hl hf with rfl | rfl | ⟨k', k1, k2⟩
    · have := e.i2; omega
    · have := e.i2; omega
    · obtain rfl := (k2.at_.symm.trans (x.nd _ hf).symm).trans e.at_
      have := ih k2.ku
      exact ⟨this.1, .up k1 this.2⟩
/-- The inner nodes below a node. -/
def ilist (T : Tb) : Nat → Int → List Int
  | 0, _ => []
  | m + 1, f => if f ≤ 1 then [] else f :: (ilist T m (ix T.nodes f).2.1 ++ ilist T m (ix T.nodes f).2.2)
theorem ilist_len : ∀ (m : Nat) (f : Int), (ilist T m f).length + 1 ≤ 2 ^ m
  | 0, f => by simp [ilist]
  | m + 1, f => by
    unfold ilist
    have a := ilist_len m (ix T.nodes f).2.1; have b := ilist_len m (ix T.nodes f).2.2
    split
    · simp; exact Nat.one_le_two_pow
    · simp [Nat.pow_succ]; omega
theorem ilist_mem (h : Ok n order level G T) (hl : T.lim = []) {f x : Int} (hr : Rch T f x) : ∀ (m : Nat), T.kn f → n - dp n level T.nodes f ≤ m → x ≤ 1 ∨ x ∈ ilist T m f := by
  have low : ∀ {f : Int} {k : Int × Int × Int} {m : Nat}, Ent n level T k f → n - dp n level T.nodes f ≤ m → ∃ m', m = m' + 1 := fun {f k m} e hm => by
    have := (h.ord.lv _ e.v0 e.vn).2.1
    rw [e.dp] at hm
    exact ⟨m - 1, by omega⟩
  induction hr with
  | self =>
    rename_i f
    intro m hf hm
    rcases h.kn_case hl hf with rfl | rfl | ⟨k', k1, k2⟩
    · exact .inl (by omega)
    · exact .inl (by omega)
    · obtain ⟨m', rfl⟩ := low k2 hm
      unfold ilist; rw [if_neg (by have := k2.i2; omega)]; exact .inr (by simp)
  | low h1 _ ih =>
    intro m hf hm
    have e := h.ent _ _ h1
    obtain ⟨m', rfl⟩ := low e hm
    have hd := e.dl; rw [e.dp] at hm
    refine (ih m' e.kl (by omega)).imp_right fun hx => ?_
    unfold ilist; rw [if_neg (by have := e.i2; omega), e.at_]
    exact List.mem_cons_of_mem _ (List.mem_append_left _ hx)
  | up h1 _ ih =>
    intro m hf hm
    have e := h.ent _ _ h1
    obtain ⟨m', rfl⟩ := low e hm
    have hd := e.du; rw [e.dp] at hm
    refine (ih m' e.ku (by omega)).imp_right fun hx => ?_
    unfold ilist; rw [if_neg (by have := e.i2; omega), e.at_]
    exact List.mem_cons_of_mem _ (List.mem_append_right _ hx)
abbrev VD := Nds → List Int → Mp → Mp → Int → Int → Int → (Int → Nds → List Int → Mp → Mp → Prop) → Prop
abbrev VO := Nat → Nds → List Int → Mp → Mp → Int → List (Int × Int) → (Int → Nds → List Int → Mp → Mp → List (Int × Int) → Prop) → Prop
theorem over_ok {V : VO} {D : VD} {X : Fn → Fn} {dof : Int → Fn → Fn → Fn}
    (hV : ∀ m nodes free ms memo f seen Q, ((f ≤ 1 → Q f nodes free ms memo seen) ∧ (¬ f ≤ 1 → (I64 (mgetD seen f 0) → ((mhas seen f) = true → Q (mgetD seen f 0) nodes free ms memo seen) ∧ ((mhas seen f) = false → In f nodes ∧ (I64 (ix nodes f).1 → (I64 (ix nodes f).2.1 → (I64 (ix nodes f).2.2 →
      V m nodes free ms memo (ix nodes f).2.1 seen fun r a b c d s => V m a b c d (ix nodes f).2.2 s fun r' a' b' c' d' s' => D a' b' c' d' (ix nodes f).1 r r' fun x a2 b2 c2 d2 => Q x a2 b2 c2 d2 (mset s' f x)))))))) → V (m + 1) nodes free ms memo f seen Q)
    (hX : ∀ b, X (fun _ => b) = fun _ => b) (hd : ∀ v f0 f1, (∀ b, cof f0 v b = f0) → (∀ b, cof f1 v b = f1) → X (sel v f0 f1) = dof v (X f0) (X f1))
    (hD : ∀ {T : Tb}, Ok n order level G T → T.lim = [] → ∀ {v l u : Int}, 0 ≤ v → v < n → T.kn l → T.kn u → Cl G (dof v (T.F l) (T.F u)) → ∀ {Q : Int → Nds → List Int → Mp → Mp → Prop},
      (∀ r T', Ok n order level G T' → Ext T T' → T'.kn r → T'.F r = dof v (T.F l) (T.F u) → Q r T'.nodes T'.free T'.ms T'.memo) → D T.nodes T.free T.ms T.memo v l u Q) :
    ∀ (m : Nat) {T : Tb}, Ok n order level G T → T.lim = [] → ∀ {f : Int} {seen : List (Int × Int)}, T.kn f → n - dp n level T.nodes f < m → seenOk X T seen → (∀ x, Rch T f x → Cl G (X (T.F x))) →
    ∀ {Q : Int → Nds → List Int → Mp → Mp → List (Int × Int) → Prop}, (∀ r T' seen', Ok n order level G T' → Ext T T' → T'.kn r → T'.F r = X (T.F f) → seenOk X T' seen' → Q r T'.nodes T'.free T'.ms T'.memo seen') →
    V m T.nodes T.free T.ms T.memo f seen Q := by
  intro m
  induction m with
  | zero => intro T ok hl f seen kf hm; have := (ok.dp_le hl kf).2; omega
  | succ m ih =>
    intro T ok hl f seen kf hm hs hc Q k
    refine hV _ _ _ _ _ _ _ _ ⟨fun hle => ?_, fun hgt _ => ⟨fun hh => ?_, fun hh => ?_⟩⟩
    · refine k f T seen ok (Ext.refl T) kf ?_ hs
      have := (ok.nonneg kf).1
      have : f = 0 ∨ f = 1 := by omega
      rcases this with rfl | rfl
      · rw [ok.f0, hX]
      · rw [ok.f1, hX]
    · obtain ⟨_, a, b⟩ := hs _ _ (mhas_true (d := 0) hh)
      exact k _ T seen ok (Ext.refl T) a b hs
    · rcases ok.kn_case hl kf with rfl | rfl | ⟨key, k1, k2⟩
      · omega
      · omega
      · have i2 := k2.i2; have dl := k2.dl; have du := k2.du; have hdp := k2.dp
        have cl0 := ok.cofs hl k2 false; have cl1 := ok.cofs hl k2 true
        simp only [Bool.false_eq_true, if_false, if_true] at cl0 cl1
        refine ⟨⟨by omega, k2.il⟩, fun _ _ _ => ?_⟩
        rw [k2.at_]
        refine ih ok hl k2.kl (by omega) hs (fun x hx => hc x (.low k1 hx)) fun r0 T0 s0 ok0 x0 kr0 e0 hs0 => ?_
        have hl0 := x0.lim.trans hl
        refine ih ok0 hl0 (x0.kn _ k2.ku) (by rw [x0.dp k2.ku]; omega) hs0 (fun x hx => by have := x0.rch ok hl ok0 hx k2.ku; rw [x0.F _ this.1]; exact hc x (.up k1 this.2)) fun r1 T1 s1 ok1 x1 kr1 e1 hs1 => ?_
        have hl1 := x1.lim.trans hl0
        have hF : dof key.1 (T1.F r0) (T1.F r1) = X (T.F f) := by
          rw [x1.F _ kr0, e0, e1, x0.F _ k2.ku, k2.F, hd _ _ _ (ok.ind hl k2.kl k2.v0 k2.vn dl) (ok.ind hl k2.ku k2.v0 k2.vn du)]
        refine hD ok1 hl1 k2.v0 k2.vn (x1.kn _ kr0) kr1 (by rw [hF]; exact hc f .self) fun r T2 ok2 x2 kr e => ?_
        have x02 := x0.trans (x1.trans x2)
        refine k r T2 _ ok2 x02 kr (by rw [e, hF]) fun y z hm => ?_
        rcases mem_mset hm with hm | hm
        · cases hm; exact ⟨x02.kn _ kf, kr, by rw [e, hF, x02.F _ kf]⟩
        · exact hs1.ext x2 y z hm
/-! #### taken for some values -/
def exV (v : Int) (f : Fn) : Fn := fun e => cof f v false e || cof f v true e
def exF (vs : List Int) (f : Fn) : Fn := vs.foldl (fun f v => exV v f) f
theorem exF_iff : ∀ {vs : List Int} {f : Fn} {e : Env}, exF vs f e = true ↔ ∃ e' : Env, (∀ i, i ∉ vs → e' i = e i) ∧ f e' = true
  | [], f, e => by
    constructor
    · intro h; exact ⟨e, fun _ _ => rfl, h⟩
    · rintro ⟨e', h, h2⟩
      have : e' = e := funext fun i => h i (by simp)
      rw [← this]; exact h2
  | v :: vs, f, e => by
    show exF vs (exV v f) e = true ↔ _
    rw [exF_iff]
    constructor
    · rintro ⟨e', h, h2⟩
      have : ∃ b, f (upd e' v b) = true := by
        simp only [exV, cof, Bool.or_eq_true] at h2
        rcases h2 with h2 | h2
        · exact ⟨_, h2⟩
        · exact ⟨_, h2⟩
      obtain ⟨b, hb⟩ := this
      refine ⟨upd e' v b, fun i hi => ?_, hb⟩
      simp only [List.mem_cons, not_or] at hi
      rw [upd_ne hi.1]; exact h i hi.2
    · rintro ⟨e', h, h2⟩
      refine ⟨fun i => if i ∈ vs then e' i else e i, fun i hi => by simp [hi], ?_⟩
      have he : upd (fun i => if i ∈ vs then e' i else e i) v (e' v) = e' := by
        funext i; unfold upd
        by_cases h1 : i = v
        · simp [h1]
        · by_cases h3 : i ∈ vs
          · simp [h1, h3]
          · simp [h1, h3]; exact (h i (by simp [h1, h3])).symm
      simp only [exV, cof, Bool.or_eq_true]
      cases hb : e' v <;> rw [hb] at he
      · exact .inl (by rw [he]; exact h2)
      · exact .inr (by rw [he]; exact h2)
theorem exF_const {vs : List Int} {b : Bool} : exF vs (fun _ => b) = fun _ => b := by
  funext e
  apply Bool.eq_iff_iff.2
  rw [exF_iff]
  exact ⟨fun ⟨_, _, h⟩ => h, fun h => ⟨e, fun _ _ => rfl, h⟩⟩
def exdo (vs : List Int) (v : Int) (f g : Fn) : Fn := if v ∈ vs then iteF f (fun _ => true) g else sel v f g
theorem exF_sel {vs : List Int} (v : Int) (f g : Fn) (hf : ∀ b, cof f v b = f) (hg : ∀ b, cof g v b = g) : exF vs (sel v f g) = exdo vs v (exF vs f) (exF vs g) := by
  funext e
  apply Bool.eq_iff_iff.2
  unfold exdo
  by_cases hv : v ∈ vs
  · rw [if_pos hv]
    have hor : iteF (exF vs f) (fun _ => true) (exF vs g) e = true ↔ exF vs f e = true ∨ exF vs g e = true := by unfold iteF; cases exF vs f e <;> simp
    rw [hor, exF_iff, exF_iff, exF_iff]
    constructor
    · rintro ⟨e', h, h2⟩
      unfold sel at h2
      cases hb : e' v <;> rw [hb] at h2
      · exact .inl ⟨e', h, h2⟩
      · exact .inr ⟨e', h, h2⟩
    · rintro (⟨e', h, h2⟩ | ⟨e', h, h2⟩)
      · refine ⟨upd e' v false, fun i hi => by rw [upd_ne (fun e' : i = v => hi (by rw [e']; exact hv))]; exact h i hi, ?_⟩
        unfold sel; rw [upd_get]; have := congrFun (hf false) e'; unfold cof at this; simp [this, h2]
      · refine ⟨upd e' v true, fun i hi => by rw [upd_ne (fun e' : i = v => hi (by rw [e']; exact hv))]; exact h i hi, ?_⟩
        unfold sel; rw [upd_get]; have := congrFun (hg true) e'; unfold cof at this; simp [this, h2]
  · rw [if_neg hv]
    have hsel : sel v (exF vs f) (exF vs g) e = true ↔ (e v = false ∧ exF vs f e = true) ∨ (e v = true ∧ exF vs g e = true) := by unfold sel; cases e v <;> simp
    rw [hsel, exF_iff, exF_iff, exF_iff]
    constructor
    · rintro ⟨e', h, h2⟩
      have h3 := h v hv
      unfold sel at h2
      rw [h3] at h2
      cases hb : e v <;> rw [hb] at h2
      · exact .inl ⟨rfl, e', h, h2⟩
      · exact .inr ⟨rfl, e', h, h2⟩
    · rintro (⟨hb, e', h, h2⟩ | ⟨hb, e', h, h2⟩)
      · exact ⟨e', h, by unfold sel; rw [h v hv, hb]; simpa using h2⟩
      · exact ⟨e', h, by unfold sel; rw [h v hv, hb]; simpa using h2⟩
theorem Exists_ok (h : Ok n order level G T) (hl : T.lim = []) {f : Int} {vs : List Int} (kf : T.kn f) (hc : ∀ x, Rch T f x → Cl G (exF vs (T.F x))) {Q : Int → Nds → List Int → Mp → Mp → Prop}
    (k : ∀ r T', Ok n order level G T' → Ext T T' → T'.kn r → T'.F r = exF vs (T.F f) → Q r T'.nodes T'.free T'.ms T'.memo) : V_Exists T.nodes T.free T.ms order level T.memo f vs Q := by
  refine ⟨10, over_ok (V := fun m a b c d f s Q => V_overE m a b c order level d f s vs Q) (D := fun a b c d v l u Q => V_Exists1 v l u vs a b c order level d Q) (X := exF vs) (dof := exdo vs)
    (fun m nodes free ms memo f seen Q h => h) (fun b => exF_const) exF_sel ?_ 10 h hl kf (fuel_ok h hl kf) (fun x r hm => by cases hm) hc fun r T' s ok x kr e _ => k r T' ok x kr e⟩
  intro T ok hl v l u h0 h1 kl ku hc Q k
  refine Index_ok fun r hr => ⟨fun hb => ?_, fun hb => ?_⟩
  · have hv : v ∈ vs := hr.1 (by simpa using hb)
    unfold exdo at hc k; rw [if_pos hv] at hc k
    rw [show (fun _ => true : Fn) = T.F 1 from ok.f1.symm] at hc k
    exact ⟨10, Ite10 ok hl kl kn_one ku hc k⟩
  · have hv : v ∉ vs := fun hv => by have := hr.2 hv; simp at hb; omega
    unfold exdo at hc k; rw [if_neg hv] at hc k
    refine mkvar_ok ok hl ⟨h0, h1⟩ fun r0 T0 ok0 x0 em kr0 e0 => ⟨10, ?_⟩
    have hF : iteF (T0.F r0) (T0.F u) (T0.F l) = sel v (T.F l) (T.F u) := by rw [e0, x0.F _ ku, x0.F _ kl]; rfl
    rw [← em]
    exact Ite10 ok0 (x0.lim.trans hl) kr0 (x0.kn _ ku) (x0.kn _ kl) (by rw [hF]; exact hc) fun r1 T1 ok1 x1 kr1 e1 => k r1 T1 ok1 (x0.trans x1) kr1 (by rw [e1, hF])
/-! #### another function in a variable's place -/
def letF (i : Int) (g f : Fn) : Fn := iteF g (cof f i true) (cof f i false)
def letdo (i : Int) (g : Fn) (v : Int) (f0 f1 : Fn) : Fn := if v = i then iteF g f1 f0 else sel v f0 f1
theorem iteF_same (g f : Fn) : iteF g f f = f := by funext e; unfold iteF; split <;> rfl
theorem letF_sel {i : Int} {g : Fn} (v : Int) (f0 f1 : Fn) (h0 : ∀ b, cof f0 v b = f0) (h1 : ∀ b, cof f1 v b = f1) : letF i g (sel v f0 f1) = letdo i g v (letF i g f0) (letF i g f1) := by
  unfold letdo
  by_cases hv : v = i
  · subst hv
    rw [if_pos rfl]
    unfold letF
    rw [cof_sel h0 h1, cof_sel h0 h1, h0, h0, h1, h1, iteF_same, iteF_same]; rfl
  · rw [if_neg hv]
    unfold letF
    rw [cof_sel_ne (Ne.symm hv), cof_sel_ne (Ne.symm hv)]
    funext e; unfold iteF sel; cases h1 : g e <;> cases h2 : e v <;> simp [h1, h2]
theorem letF_const {i : Int} {g : Fn} {b : Bool} : letF i g (fun _ => b) = fun _ => b := iteF_same _ _
theorem Let_ok (h : Ok n order level G T) (hl : T.lim = []) {f i g : Int} (kf : T.kn f) (kg : T.kn g) (hc : ∀ x, Rch T f x → Cl G (letF i (T.F g) (T.F x))) {Q : Int → Nds → List Int → Mp → Mp → Prop}
    (k : ∀ r T', Ok n order level G T' → Ext T T' → T'.kn r → T'.F r = letF i (T.F g) (T.F f) → Q r T'.nodes T'.free T'.ms T'.memo) : V_Let T.nodes T.free T.ms order level T.memo f i g Q := by
  generalize hg : T.F g = gF at hc k
  let D : VD := fun a b c d v l u Q => V_Let1 v l u i a b c order level d g Q
  -- 'g' is known in all tables that come
  suffices H : ∀ (m : Nat) {T : Tb}, Ok n order level G T → T.lim = [] → T.kn g → T.F g = gF → ∀ {f : Int} {seen : List (Int × Int)}, T.kn f → n - dp n level T.nodes f < m → seenOk (letF i gF) T seen → (∀ x, Rch T f x → Cl G (letF i gF (T.F x))) →
      ∀ {Q : Int → Nds → List Int → Mp → Mp → List (Int × Int) → Prop}, (∀ r T' seen', Ok n order level G T' → Ext T T' → T'.kn r → T'.F r = letF i gF (T.F f) → seenOk (letF i gF) T' seen' → Q r T'.nodes T'.free T'.ms T'.memo seen') →
      V_overL m T.nodes T.free T.ms order level T.memo f seen i g Q from
    ⟨10, H 10 h hl kg hg kf (fuel_ok h hl kf) (fun x r hm => by cases hm) hc fun r T' s ok x kr e _ => k r T' ok x kr e⟩
  clear k hc hg kf kg hl h
  intro m
  induction m with
  | zero => intro T ok hl kg hg f seen kf hm; have := (ok.dp_le hl kf).2; omega
  | succ m ih =>
    intro T ok hl kg hg f seen kf hm hs hc Q k
    refine ⟨fun hle => ?_, fun hgt _ => ⟨fun hh => ?_, fun hh => ?_⟩⟩
    · refine k f T seen ok (Ext.refl T) kf ?_ hs
      have := (ok.nonneg kf).1
      have : f = 0 ∨ f = 1 := by omega
      rcases this with rfl | rfl
      · rw [ok.f0, letF_const]
      · rw [ok.f1, letF_const]
    · obtain ⟨_, a, b⟩ := hs _ _ (mhas_true (d := 0) hh)
      exact k _ T seen ok (Ext.refl T) a b hs
    · rcases ok.kn_case hl kf with rfl | rfl | ⟨key, k1, k2⟩
      · omega
      · omega
      · have i2 := k2.i2; have dl := k2.dl; have du := k2.du; have hdp := k2.dp
        have cl0 := ok.cofs hl k2 false; have cl1 := ok.cofs hl k2 true
        simp only [Bool.false_eq_true, if_false, if_true] at cl0 cl1
        refine ⟨⟨by omega, k2.il⟩, fun _ _ _ => ?_⟩
        rw [k2.at_]
        refine ih ok hl kg hg k2.kl (by omega) hs (fun x hx => hc x (.low k1 hx)) fun r0 T0 s0 ok0 x0 kr0 e0 hs0 => ?_
        have hl0 := x0.lim.trans hl
        have kg0 := x0.kn _ kg
        have hg0 : T0.F g = gF := by rw [x0.F _ kg, hg]
        refine ih ok0 hl0 kg0 hg0 (x0.kn _ k2.ku) (by rw [x0.dp k2.ku]; omega) hs0 (fun x hx => by have := x0.rch ok hl ok0 hx k2.ku; rw [x0.F _ this.1]; exact hc x (.up k1 this.2)) fun r1 T1 s1 ok1 x1 kr1 e1 hs1 => ?_
        have hl1 := x1.lim.trans hl0
        have kg1 := x1.kn _ kg0
        have hg1 : T1.F g = gF := by rw [x1.F _ kg0, hg0]
        have hF : letdo i gF key.1 (T1.F r0) (T1.F r1) = letF i gF (T.F f) := by
          rw [x1.F _ kr0, e0, e1, x0.F _ k2.ku, k2.F, letF_sel _ _ _ (ok.ind hl k2.kl k2.v0 k2.vn dl) (ok.ind hl k2.ku k2.v0 k2.vn du)]
        have fin : ∀ r T2, Ok n order level G T2 → Ext T1 T2 → T2.kn r → T2.F r = letF i gF (T.F f) → Q r T2.nodes T2.free T2.ms T2.memo (mset s1 f r) := fun r T2 ok2 x2 kr e => by
          have x02 := x0.trans (x1.trans x2)
          refine k r T2 _ ok2 x02 kr e fun y z hm => ?_
          rcases mem_mset hm with hm | hm
          · cases hm; exact ⟨x02.kn _ kf, kr, by rw [e, x02.F _ kf]⟩
          · exact hs1.ext x2 y z hm
        have hcF := hc f .self
        rw [← hF] at hcF fin
        unfold letdo at hcF fin
        refine ⟨fun hv => ?_, fun hv => ?_⟩
        · rw [if_pos hv] at hcF fin
          rw [← hg1] at hcF fin
          exact ⟨10, Ite10 ok1 hl1 kg1 kr1 (x1.kn _ kr0) hcF fin⟩
        · rw [if_neg hv] at hcF fin
          refine mkvar_ok ok1 hl1 ⟨k2.v0, k2.vn⟩ fun r2 T2 ok2 x2 em kr2 e2 => ⟨10, ?_⟩
          have hF2 : iteF (T2.F r2) (T2.F r1) (T2.F r0) = sel key.1 (T1.F r0) (T1.F r1) := by rw [e2, x2.F _ kr1, x2.F _ (x1.kn _ kr0)]; rfl
          rw [← em]
          exact Ite10 ok2 (x2.lim.trans hl1) kr2 (x2.kn _ kr1) (x2.kn _ (x1.kn _ kr0)) (by rw [hF2]; exact hcF) fun r3 T3 ok3 x3 kr3 e3 => fin r3 T3 ok3 (x2.trans x3) kr3 (by rw [e3, hF2])
/-! ### Values -/
def envOf (at_ : List Bool) : Env := fun i => decide (0 ≤ i ∧ i < at_.length) && ix at_ i
theorem Eval_ok (h : Ok n order level G T) (hl : T.lim = []) {f : Int} (kf : T.kn f) {at_ : List Bool} {Q : Bool → Prop} (k : Q (T.F f (envOf at_))) : V_Eval T.nodes T.free T.ms order level T.memo f at_ Q := by
  refine ⟨fun s => T.kn s ∧ T.F s (envOf at_) = T.F f (envOf at_), fun s => (n - dp n level T.nodes s).toNat, ⟨kf, rfl⟩, ?_⟩
  rintro s ⟨ks, hs⟩
  refine ⟨fun hgt => ?_, fun hle => ?_⟩
  · rcases h.kn_case hl ks with rfl | rfl | ⟨key, k1, k2⟩
    · omega
    · omega
    · have i2 := k2.i2; have dl := k2.dl; have du := k2.du
      have hdp := k2.dp
      have b1 := h.dp_le hl k2.kl; have b2 := h.dp_le hl k2.ku
      refine ⟨⟨by omega, k2.il⟩, fun _ _ _ => ?_⟩
      rw [k2.at_]
      refine ⟨fun b => b = envOf at_ key.1, fun b hb => ⟨fun ht => ⟨⟨k2.ku, ?_⟩, by dsimp only; omega⟩, fun ht => ⟨⟨k2.kl, ?_⟩, by dsimp only; omega⟩⟩, fun _ => ⟨fun hlt => ⟨⟨k2.v0, hlt⟩, ?_⟩, fun hge => ?_⟩⟩
      · rw [← hs, k2.F]; unfold sel; rw [← hb, ht]; rfl
      · rw [← hs, k2.F]; unfold sel; rw [← hb, ht]; rfl
      · have := k2.v0; simp [envOf, hlt, this]
      · have : ¬ (key.1 < (at_.length : Int)) := hge
        simp [envOf, this]
  · have := (h.nonneg ks).1
    have : s = 0 ∨ s = 1 := by omega
    rcases this with rfl | rfl
    · rw [← hs, h.f0] at k; exact k
    · rw [← hs, h.f1] at k; exact k
/-! ### The first values -/
open Classical in
noncomputable def frst : Nat → Int → Fn → List Bool
  | 0, _, _ => []
  | m + 1, x, f => if cof f x false = fun _ => false then true :: frst m (x + 1) (cof f x true) else false :: frst m (x + 1) (cof f x false)
theorem frst_zero {x : Int} {f : Fn} : frst 0 x f = [] := rfl
open Classical in
theorem frst_succ {m : Nat} {x : Int} {f : Fn} : frst (m + 1) x f = if cof f x false = fun _ => false then true :: frst m (x + 1) (cof f x true) else false :: frst m (x + 1) (cof f x false) := rfl
theorem letF_false {i : Int} {f : Fn} : letF i (fun _ => false) f = cof f i false := rfl
theorem letF_true {i : Int} {f : Fn} : letF i (fun _ => true) f = cof f i true := rfl
theorem set_app {l : List Bool} {m : Nat} {b : Bool} {x : Int} (hx : x = l.length) : (l ++ List.replicate (m + 1) false).set x.toNat b = (l ++ [b]) ++ List.replicate m false := by
  subst hx
  rw [List.replicate_succ, Int.toNat_natCast, List.set_append_right _ _ (Nat.le_refl _), Nat.sub_self, List.set_cons_zero, List.append_assoc]; rfl
theorem First_ok (h : Ok n order level G T) (hl : T.lim = []) {f : Int} (kf : T.kn f) {Q : List Bool → Bool → Nds → List Int → Mp → Mp → Prop}
    (k0 : T.F f = (fun _ => false) → Q [] false T.nodes T.free T.ms T.memo)
    (k1 : T.F f ≠ (fun _ => false) → ∀ T', Ok n order level G T' → Ext T T' → Q (frst n.toNat 0 (T.F f)) true T'.nodes T'.free T'.ms T'.memo) : V_First T.nodes T.free T.ms order level T.memo f Q := by
  have n0 := h.ord.n0; have n9 := h.ord.n9
  refine ⟨fun e => k0 (by rw [e, h.f0]), fun hne => ?_⟩
  have hnf : T.F f ≠ fun _ => false := fun e => hne (h.inj hl kf kn_zero (by rw [e, h.f0]))
  rw [h.ord.lo]
  refine fun _ => ⟨⟨by omega, by omega, by omega⟩, fun _ => ?_⟩
  refine ⟨fun s => ∃ T', s.1 = T'.nodes ∧ s.2.1 = T'.free ∧ s.2.2.1 = T'.ms ∧ s.2.2.2.1 = T'.memo ∧ Ok n order level G T' ∧ Ext T T' ∧ T'.kn s.2.2.2.2.1 ∧ 0 ≤ s.2.2.2.2.2.2 ∧ s.2.2.2.2.2.2 ≤ n ∧
      ∃ l : List Bool, (l.length : Int) = s.2.2.2.2.2.2 ∧ s.2.2.2.2.2.1 = l ++ List.replicate (n - s.2.2.2.2.2.2).toNat false ∧ l ++ frst (n - s.2.2.2.2.2.2).toNat s.2.2.2.2.2.2 (T'.F s.2.2.2.2.1) = frst n.toNat 0 (T.F f),
    fun s => (n - s.2.2.2.2.2.2).toNat, ⟨T, rfl, rfl, rfl, rfl, h, Ext.refl T, kf, Int.le_refl 0, n0, [], rfl, by simp, by simp⟩, ?_⟩
  rintro ⟨nodes, free, ms, memo, g, out, x⟩ ⟨T', e1, e2, e3, e4, ok, xx, kg, x0, xn, l, hlen, hout, hfr⟩
  dsimp only at e1 e2 e3 e4 kg x0 xn hlen hout hfr
  subst e1 e2 e3 e4 hout
  have hl' := xx.lim.trans hl
  rw [List.length_replicate]
  have hnn : (n.toNat : Int) = n := by omega
  refine ⟨fun hlt => ?_, fun hge => ?_⟩
  · rw [hnn] at hlt
    have hm : (n - x).toNat = (n - (x + 1)).toNat + 1 := by omega
    rw [hm] at hfr
    refine ⟨fun s => ∃ T', s.1 = T'.nodes ∧ s.2.1 = T'.free ∧ s.2.2.1 = T'.ms ∧ s.2.2.2.1 = T'.memo ∧ Ok n order level G T' ∧ Ext T T' ∧ T'.kn s.2.2.2.2.1 ∧
      ∃ l : List Bool, (l.length : Int) = x + 1 ∧ s.2.2.2.2.2 = l ++ List.replicate (n - (x + 1)).toNat false ∧ l ++ frst (n - (x + 1)).toNat (x + 1) (T'.F s.2.2.2.2.1) = frst n.toNat 0 (T.F f), ?_, ?_⟩
    · rintro ⟨nodes, free, ms, memo, g', out⟩ ⟨T2, e1, e2, e3, e4, ok2, x2, kg2, l2, hlen2, hout2, hfr2⟩
      dsimp only at e1 e2 e3 e4 kg2 hlen2 hout2 hfr2
      subst e1 e2 e3 e4 hout2
      exact ⟨by unfold I64; omega, ⟨T2, rfl, rfl, rfl, rfl, ok2, x2, kg2, by dsimp only; omega, by dsimp only; omega, l2, hlen2, rfl, hfr2⟩, by dsimp only; omega⟩
    · have hcc : ∀ {U : Tb} (_ : Ok n order level G U) (_ : U.lim = []) {g : Int} (_ : U.kn g) (b : Bool) (y : Int), Rch U g y → Cl G (letF x (fun _ => b) (U.F y)) := fun {U} okU hU {g} kg b y hy => by
        have : letF x (fun _ => b) (U.F y) = cof (U.F y) x b := by cases b <;> rfl
        rw [this]; exact (okU.clk (hy.kn okU hU kg)).cof _ _
      refine Let_ok ok hl' kg kn_zero (by rw [ok.f0]; exact hcc ok hl' kg false) fun r T2 ok2 x2 kr e => ?_
      rw [ok.f0, letF_false] at e
      rw [frst_succ] at hfr
      refine ⟨fun hne => ?_, fun heq => ?_⟩
      · have hn0 : ¬ cof (T'.F g) x false = fun _ => false := fun e' => hne (ok2.inj (x2.lim.trans hl') kr kn_zero (by rw [e, e', ok2.f0]))
        rw [if_neg hn0] at hfr
        refine ⟨T2, rfl, rfl, rfl, rfl, ok2, xx.trans x2, kr, l ++ [false], by simp; omega, ?_, by dsimp only; rw [e, List.append_assoc]; exact hfr⟩
        show _ = _
        rw [hm, List.replicate_succ, List.append_assoc]; rfl
      · have heq : r = 0 := by omega
        have h0 : cof (T'.F g) x false = fun _ => false := by rw [← e, heq, ok2.f0]
        rw [if_pos h0] at hfr
        have kg2 := x2.kn _ kg
        refine ⟨⟨x0, by simp; omega⟩, Let_ok ok2 (x2.lim.trans hl') kg2 kn_one (by rw [ok2.f1]; exact hcc ok2 (x2.lim.trans hl') kg2 true) fun r3 T3 ok3 x3 kr3 e3 => ?_⟩
        rw [ok2.f1, letF_true, x2.F _ kg] at e3
        refine ⟨T3, rfl, rfl, rfl, rfl, ok3, xx.trans (x2.trans x3), kr3, l ++ [true], by simp; omega, ?_, by dsimp only; rw [e3, List.append_assoc]; exact hfr⟩
        show _ = _
        rw [hm, set_app hlen.symm]
  · rw [hnn] at hge
    have hx : x = n := by omega
    have hz : (n - x).toNat = 0 := by omega
    rw [hz, frst_zero] at hfr
    rw [List.append_nil] at hfr
    show Q (l ++ List.replicate (n - x).toNat false) true _ _ _ _
    rw [hz, List.replicate_zero, List.append_nil, hfr]
    exact k1 hnf T' ok xx
end Go.Vc
