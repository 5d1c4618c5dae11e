/- Diagrams in plain words, part 4: with how many values a node is so; the nodes below; nodes forgotten. No program in sight. -/
import Derived.Test.YtceipmldngeagaaPlainB3
set_option linter.unusedVariables false
set_option linter.unusedSimpArgs false
namespace Go.Vc
variable {n : Int} {order level : List Int} {G : List Fn} {T : Tb}
def cnt : List Int → Fn → Env → Nat
  | [], f, e => if f e then 1 else 0
  | v :: vs, f, e => cnt vs f (upd e v false) + cnt vs f (upd e v true)
theorem cnt_upd {v : Int} {f : Fn} (h : ∀ b, cof f v b = f) : ∀ {vs : List Int} {e : Env} {b : Bool}, cnt vs f (upd e v b) = cnt vs f e
  | [], e, b => by unfold cnt; have := congrFun (h b) e; unfold cof at this; rw [this]
  | w :: vs, e, b => by
    unfold cnt
    by_cases hw : v = w
    · subst hw; rw [upd_upd, upd_upd]
    · rw [upd_comm hw, upd_comm hw, cnt_upd h, cnt_upd h]
theorem cnt_cof {v : Int} {f : Fn} {b : Bool} : ∀ {vs : List Int} {e : Env}, v ∉ vs → cnt vs (cof f v b) e = cnt vs f (upd e v b)
  | [], e, _ => rfl
  | w :: vs, e, h => by
    simp only [List.mem_cons, not_or] at h
    unfold cnt
    rw [cnt_cof h.2, cnt_cof h.2, upd_comm (Ne.symm h.1), upd_comm (Ne.symm h.1)]
theorem cnt_le : ∀ {vs : List Int} {f : Fn} {e : Env}, cnt vs f e ≤ 2 ^ vs.length
  | [], f, e => by unfold cnt; split <;> simp
  | v :: vs, f, e => by unfold cnt; have := cnt_le (vs := vs) (f := f) (e := upd e v false); have := cnt_le (vs := vs) (f := f) (e := upd e v true); simp [Nat.pow_succ]; omega
theorem cnt_perm {vs ws : List Int} (h : vs.Perm ws) : ∀ {f : Fn} {e : Env}, cnt vs f e = cnt ws f e := by
  induction h with
  | nil => intros; rfl
  | cons x _ ih => intro f e; unfold cnt; rw [ih, ih]
  | swap x y l =>
    intro f e
    simp only [cnt]
    by_cases hxy : x = y
    · subst hxy; rfl
    · rw [upd_comm (Ne.symm hxy), upd_comm (Ne.symm hxy), upd_comm (Ne.symm hxy), upd_comm (Ne.symm hxy)]; omega
  | trans _ _ i1 i2 => intro f e; rw [i1, i2]
def e0 : Env := fun _ => false
/-- What 'Count' finds below a node. -/
def cat (order level : List Int) (n : Int) (T : Tb) (i : Int) : Nat := cnt (order.drop (dp n level T.nodes i).toNat) (T.F i) e0
theorem Ord.drop (h : Ord n order level) {j : Int} (h0 : 0 ≤ j) (h1 : j < n) : order.drop j.toNat = ix order j :: order.drop (j + 1).toNat := by
  have hl := h.lo
  have hj : j.toNat < order.length := by omega
  rw [List.drop_eq_getElem_cons hj]
  have := ix_get (xs := order) h0 (by omega)
  rw [List.getElem?_eq_getElem hj] at this
  rw [Option.some.inj this]
  congr 2; omega
theorem Ord.notin (h : Ord n order level) {j k : Int} (h0 : 0 ≤ j) (hjk : j < k) : ix order j ∉ order.drop k.toNat := by
  intro hm
  obtain ⟨q, hq, e⟩ := List.mem_iff_getElem.1 hm
  rw [List.getElem_drop] at e
  have hl := h.lo
  have hlen : k.toNat + q < order.length := by simp at hq; omega
  have h1 := h.ol ((k.toNat + q : Nat) : Int) (by omega) (by omega)
  have h2 := h.ol j h0 (by omega)
  have h3 := ix_get (xs := order) (i := ((k.toNat + q : Nat) : Int)) (by omega) (by omega)
  rw [Int.toNat_natCast, List.getElem?_eq_getElem hlen] at h3
  have h4 := Option.some.inj h3
  rw [e] at h4
  rw [← h4] at h1
  omega
theorem Ok.cnt_drop (h : Ok n order level G T) (hl : T.lim = []) {i : Int} (hi : T.kn i) : ∀ (m : Nat) {j : Int} {e : Env}, 0 ≤ j → j + m = dp n level T.nodes i → cnt (order.drop j.toNat) (T.F i) e = 2 ^ m * cnt (order.drop (dp n level T.nodes i).toNat) (T.F i) e
  | 0, j, e, h0, hj => by rw [← hj]; simp
  | m + 1, j, e, h0, hj => by
    have b := h.dp_le hl hi
    have ho := h.ord.ol j h0 (by omega)
    have hind := h.ind hl hi ho.1 ho.2.1 (by omega)
    rw [h.ord.drop h0 (by omega)]
    show cnt _ _ (upd e _ false) + cnt _ _ (upd e _ true) = _
    rw [cnt_upd hind, cnt_upd hind, h.cnt_drop hl hi m (by omega) (by omega), Nat.pow_succ, Nat.mul_comm (2 ^ m) 2, Nat.mul_assoc]
    omega
theorem cat_le (h : Ok n order level G T) {i : Int} : cat order level n T i ≤ 512 := by
  have := cnt_le (vs := order.drop (dp n level T.nodes i).toNat) (f := T.F i) (e := e0)
  have h1 : (order.drop (dp n level T.nodes i).toNat).length ≤ 9 := by have := h.ord.lo; have := h.ord.n9; rw [List.length_drop]; omega
  have : 2 ^ (order.drop (dp n level T.nodes i).toNat).length ≤ 2 ^ 9 := Nat.pow_le_pow_right (by omega) h1
  unfold cat; omega
theorem Ok.cat_node (h : Ok n order level G T) (hl : T.lim = []) {k : Int × Int × Int} {i : Int} (he : Ent n level T k i) :
    cat order level n T i = 2 ^ (dp n level T.nodes k.2.1 - dp n level T.nodes i - 1).toNat * cat order level n T k.2.1 + 2 ^ (dp n level T.nodes k.2.2 - dp n level T.nodes i - 1).toNat * cat order level n T k.2.2 := by
  have hd := he.dp
  have hv := h.ord.lv k.1 he.v0 he.vn
  have dl := he.dl; have du := he.du
  have hx : ix order (dp n level T.nodes i) = k.1 := by rw [hd]; exact hv.2.2
  have hni : k.1 ∉ order.drop (dp n level T.nodes i + 1).toNat := by rw [← hx]; exact h.ord.notin (by omega) (by omega)
  have c0 := h.cofs hl he false; have c1 := h.cofs hl he true
  simp only [Bool.false_eq_true, if_false, if_true] at c0 c1
  unfold cat
  rw [h.ord.drop (by omega) (by omega), hx]
  show cnt (order.drop (dp n level T.nodes i + 1).toNat) (T.F i) (upd e0 k.1 false) + cnt (order.drop (dp n level T.nodes i + 1).toNat) (T.F i) (upd e0 k.1 true) = _
  rw [← cnt_cof hni, ← cnt_cof hni, c0, c1, h.cnt_drop hl he.kl (dp n level T.nodes k.2.1 - dp n level T.nodes i - 1).toNat (by omega) (by omega), h.cnt_drop hl he.ku (dp n level T.nodes k.2.2 - dp n level T.nodes i - 1).toNat (by omega) (by omega)]
theorem cat_end (h : Ok n order level G T) {i : Int} (hi : i = 0 ∨ i = 1) : (cat order level n T i : Int) = i := by
  unfold cat
  have : dp n level T.nodes i = n := dp_end (by omega)
  have hd : order.drop n.toNat = [] := List.drop_eq_nil_of_le (by have := h.ord.lo; omega)
  rw [this, hd]
  rcases hi with rfl | rfl
  · rw [h.f0]; rfl
  · rw [h.f1]; rfl
theorem shl_small {c : Nat} {d : Int} (hc : c ≤ 512) (h0 : 0 ≤ d) (h9 : d ≤ 9) : (0 : Int) ≤ d ∧ d < 64 ∧ I64 ((c : Int) * 2 ^ d.toNat) ∧ (c : Int) * 2 ^ d.toNat ≤ 262144 ∧ 0 ≤ (c : Int) * 2 ^ d.toNat := by
  have h1 : (2 : Nat) ^ d.toNat ≤ 2 ^ 9 := Nat.pow_le_pow_right (by omega) (by omega)
  have h2 : c * 2 ^ d.toNat ≤ 512 * 512 := Nat.mul_le_mul hc (by simpa using h1)
  have h3 : ((c * 2 ^ d.toNat : Nat) : Int) = (c : Int) * 2 ^ d.toNat := by simp
  refine ⟨h0, by omega, ?_, by omega, by omega⟩
  unfold I64; omega
theorem Count1_ok (h : Ok n order level G T) (hl : T.lim = []) : ∀ (m : Nat) {f : Int} {seen : List (Int × Int)}, T.kn f → n - dp n level T.nodes f < m → (∀ x r, (x, r) ∈ seen → r = (cat order level n T x : Int)) →
    ∀ {Q : Int → List (Int × Int) → Prop}, (∀ seen', (∀ x r, (x, r) ∈ seen' → r = (cat order level n T x : Int)) → Q (cat order level n T f) seen') → V_Count1 m f seen T.nodes T.free T.ms order level T.memo Q := by
  intro m
  induction m with
  | zero => intro f seen kf hm; have := (h.dp_le hl kf).2; omega
  | succ m ih =>
    intro f seen kf hm hs Q k
    refine ⟨fun hle => ?_, fun hgt _ => ⟨fun hh => ?_, fun hh => ?_⟩⟩
    · have := (h.nonneg kf).1
      have hc := k seen hs
      rw [cat_end h (by omega)] at hc; exact hc
    · rw [hs _ _ (mhas_true (d := 0) hh)]; exact k seen hs
    · rcases h.kn_case hl kf with rfl | rfl | ⟨key, k1, k2⟩
      · omega
      · omega
      · have i2 := k2.i2; have dl := k2.dl; have du := k2.du; have hdp := k2.dp
        have bl := h.dp_le hl k2.kl; have bu := h.dp_le hl k2.ku; have n9 := h.ord.n9; have bf := h.dp_le hl kf
        refine ⟨⟨by omega, k2.il⟩, fun _ _ _ => depth_ok h hl kf ?_⟩
        rw [k2.at_]
        have a1 := shl_small (c := cat order level n T key.2.1) (d := dp n level T.nodes key.2.1 - dp n level T.nodes f - 1) (cat_le h) (by omega) (by omega)
        have a2 := shl_small (c := cat order level n T key.2.2) (d := dp n level T.nodes key.2.2 - dp n level T.nodes f - 1) (cat_le h) (by omega) (by omega)
        refine ih k2.kl (by omega) hs fun s1 hs1 => depth_ok h hl k2.kl ⟨by unfold I64; omega, by unfold I64; omega, ⟨a1.1, a1.2.1, a1.2.2.1⟩, ?_⟩
        refine ih k2.ku (by omega) hs1 fun s2 hs2 => depth_ok h hl k2.ku ⟨by unfold I64; omega, by unfold I64; omega, ⟨a2.1, a2.2.1, a2.2.2.1⟩, by unfold I64; omega, ?_⟩
        have e : (cat order level n T key.2.1 : Int) * 2 ^ (dp n level T.nodes key.2.1 - dp n level T.nodes f - 1).toNat + (cat order level n T key.2.2 : Int) * 2 ^ (dp n level T.nodes key.2.2 - dp n level T.nodes f - 1).toNat = (cat order level n T f : Int) := by
          rw [h.cat_node hl k2]; simp [Int.mul_comm]
        rw [e]
        exact k _ fun x r hm => by
          rcases mem_mset hm with hm | hm
          · cases hm; rfl
          · exact hs2 x r hm
theorem Count_ok (h : Ok n order level G T) (hl : T.lim = []) {f : Int} (kf : T.kn f) {Q : Int → Prop} (k : Q (cnt order (T.F f) e0 : Nat)) : V_Count T.nodes T.free T.ms order level T.memo f Q := by
  have b := h.dp_le hl kf; have n9 := h.ord.n9
  refine ⟨10, Count1_ok h hl 10 kf (fuel_ok h hl kf) (fun x r hm => by cases hm) fun s _ => depth_ok h hl kf ?_⟩
  have a := shl_small (c := cat order level n T f) (d := dp n level T.nodes f) (cat_le h) b.1 (by omega)
  refine ⟨⟨a.1, a.2.1, a.2.2.1⟩, ?_⟩
  have e := h.cnt_drop hl kf (dp n level T.nodes f).toNat (j := 0) (e := e0) (by omega) (by omega)
  rw [show ((0 : Int)).toNat = 0 from rfl, List.drop_zero] at e
  have e2 : ((cat order level n T f : Nat) : Int) * 2 ^ (dp n level T.nodes f).toNat = ((cnt order (T.F f) e0 : Nat) : Int) := by rw [e]; unfold cat; simp [Int.mul_comm]
  rw [e2]; exact k
/-! ### The nodes below -/
def keys (m : List (Int × Int)) : List Int := m.map (·.1)
/-- A set of nodes, as a map to 1. -/
structure InOk (T : Tb) (s : List (Int × Int)) : Prop where
  nd : (keys s).Nodup
  one : ∀ p ∈ s, p.2 = 1 ∧ T.live p.1
theorem keys_mset {s : List (Int × Int)} {f : Int} (h : f ∉ keys s) : mset s f 1 = s ++ [(f, 1)] := mset_none fun p hp e => h (e ▸ List.mem_map_of_mem (f := (·.1)) hp)
theorem InOk.get {s : List (Int × Int)} (h : InOk T s) {f : Int} : mgetD s f 0 ≠ 0 ↔ f ∈ keys s := by
  unfold mgetD
  cases hf : mfind s f with
  | none => simp; intro hm; obtain ⟨p, hp, e⟩ := List.mem_map.1 hm; exact mfind_none hf p hp e
  | some v =>
    have := mfind_some hf
    have h1 := (h.one _ this).1
    simp at h1; subst h1
    simp; exact List.mem_map.2 ⟨_, this, rfl⟩
theorem InOk.put {s : List (Int × Int)} (h : InOk T s) {f : Int} (hf : f ∉ keys s) (hl : T.live f) : InOk T (s ++ [(f, 1)]) := by
  refine ⟨?_, fun p hp => ?_⟩
  · unfold keys; rw [List.map_append, List.nodup_append]
    refine ⟨h.nd, by simp, fun x hx y hy e => ?_⟩
    simp at hy; subst hy; subst e; exact hf hx
  · rcases List.mem_append.1 hp with hp | hp
    · exact h.one p hp
    · simp at hp; subst hp; exact ⟨rfl, hl⟩
def down (T : Tb) (s : List (Int × Int)) (x : Int) : Prop := ∀ k, (k, x) ∈ T.ms → (k.2.1 ≤ 1 ∨ k.2.1 ∈ keys s) ∧ (k.2.2 ≤ 1 ∨ k.2.2 ∈ keys s)
theorem below_ok (h : Ok n order level G T) (hl : T.lim = []) : ∀ (m : Nat) {f : Int} {s : List (Int × Int)}, T.kn f → n - dp n level T.nodes f < m → InOk T s →
    ∀ {Q : List (Int × Int) → Prop}, (∀ s', InOk T s' → (∀ x ∈ keys s, x ∈ keys s') → (f ≤ 1 ∨ f ∈ keys s') → (∀ x ∈ keys s', x ∈ keys s ∨ Rch T f x) → (∀ x ∈ keys s', x ∉ keys s → down T s' x) → Q s') →
    V_below m T.nodes T.free T.ms order level T.memo f s Q := by
  intro m
  induction m with
  | zero => intro f s kf hm; have := (h.dp_le hl kf).2; omega
  | succ m ih =>
    intro f s kf hm hs Q k
    refine ⟨fun b => (b = true ↔ f ≤ 1 ∨ f ∈ keys s), fun b hb => ⟨fun ht => ?_, fun ht => ?_⟩, fun hle => by simp [hle], fun hgt _ => by show (decide (mgetD s f 0 ≠ 0) = true ↔ f ≤ 1 ∨ f ∈ keys s); rw [decide_eq_true_iff, hs.get]; simp [hgt]⟩
    · exact k s hs (fun _ h => h) (hb.1 ht) (fun x hx => .inl hx) fun x hx hn => absurd hx hn
    · have hn : ¬ (f ≤ 1 ∨ f ∈ keys s) := fun hc => by rw [hb.2 hc] at ht; cases ht
      simp only [not_or] at hn
      rcases h.kn_case hl kf with rfl | rfl | ⟨key, k1, k2⟩
      · omega
      · omega
      · have i2 := k2.i2; have dl := k2.dl; have du := k2.du; have hdp := k2.dp
        have hin := hs.put hn.2 ⟨key, k1⟩
        have huniq : ∀ k', (k', f) ∈ T.ms → k' = key := fun k' hk' => by have := (h.ent k' f hk').at_; rw [← this]; exact k2.at_
        have hmem : ∀ {x}, x ∈ keys (s ++ [(f, 1)]) ↔ x ∈ keys s ∨ x = f := by intro x; unfold keys; simp
        refine ⟨⟨by omega, k2.il⟩, fun _ => ?_⟩
        rw [k2.at_, keys_mset hn.2]
        refine ih k2.kl (by omega) hin fun s1 i1 a1 b1 c1 d1 => ⟨⟨by omega, k2.il⟩, fun _ => ih k2.ku (by omega) i1 fun s2 i2' a2 b2 c2 d2 => ?_⟩
        refine k s2 i2' (fun x hx => a2 x (a1 x (hmem.2 (.inl hx)))) (.inr (a2 f (a1 f (hmem.2 (.inr rfl))))) (fun x hx => ?_) fun x hx hnx => ?_
        · rcases c2 x hx with hx | hx
          · rcases c1 x hx with hx | hx
            · rcases hmem.1 hx with hx | rfl
              · exact .inl hx
              · exact .inr .self
            · exact .inr (.low k1 hx)
          · exact .inr (.up k1 hx)
        · by_cases h1 : x ∈ keys s1
          · by_cases h0 : x = f
            · subst h0
              intro k' hk'
              rw [huniq k' hk']
              exact ⟨b1.imp_right (a2 _), b2⟩
            · have := d1 x h1 (fun hc => by rcases hmem.1 hc with hc | hc; exact hnx hc; exact h0 hc)
              exact fun k' hk' => ⟨(this k' hk').1.imp_right (a2 _), (this k' hk').2.imp_right (a2 _)⟩
          · exact d2 x hx h1
/-- The inner nodes of some functions. -/
structure AllOk (T : Tb) (fs : List Int) (s : List (Int × Int)) : Prop where
  io : InOk T s
  has : ∀ f ∈ fs, f ≤ 1 ∨ f ∈ keys s
  dn : ∀ x ∈ keys s, down T s x
  rc : ∀ x ∈ keys s, ∃ f ∈ fs, Rch T f x
theorem AllOk.nil : AllOk T [] [] := ⟨⟨by simp [keys], fun _ h => by cases h⟩, fun _ h => (by cases h), fun _ h => (by cases h), fun _ h => by cases h⟩
theorem AllOk.more {fs : List Int} {s s' : List (Int × Int)} {f : Int} (h : AllOk T fs s) (i : InOk T s') (a : ∀ x ∈ keys s, x ∈ keys s') (b : f ≤ 1 ∨ f ∈ keys s') (c : ∀ x ∈ keys s', x ∈ keys s ∨ Rch T f x) (d : ∀ x ∈ keys s', x ∉ keys s → down T s' x) : AllOk T (fs ++ [f]) s' := by
  refine ⟨i, fun g hg => ?_, fun x hx => ?_, fun x hx => ?_⟩
  · rcases List.mem_append.1 hg with hg | hg
    · exact (h.has g hg).imp_right (a g)
    · simp at hg; subst hg; exact b
  · by_cases hs : x ∈ keys s
    · exact fun k hk => ⟨(h.dn x hs k hk).1.imp_right (a _), (h.dn x hs k hk).2.imp_right (a _)⟩
    · exact d x hx hs
  · rcases c x hx with hx | hx
    · obtain ⟨g, hg, r⟩ := h.rc x hx; exact ⟨g, List.mem_append_left _ hg, r⟩
    · exact ⟨f, List.mem_append_right _ (by simp), hx⟩
theorem all_ok (h : Ok n order level G T) (hl : T.lim = []) {fs : List Int} (hf : ∀ f ∈ fs, T.kn f) {Q : List (Int × Int) → Prop} (k : ∀ s, AllOk T fs s → Q s) : V_all T.nodes T.free T.ms order level T.memo fs Q := by
  refine fun hlen => ⟨fun s => 0 ≤ s.2 ∧ s.2 ≤ fs.length ∧ AllOk T (fs.take s.2.toNat) s.1, fun s => (fs.length - s.2).toNat, ⟨Int.le_refl 0, by dsimp only; omega, AllOk.nil⟩, ?_⟩
  rintro ⟨s, x⟩ ⟨h0, h1, h2⟩
  dsimp only at h0 h1 h2
  refine ⟨fun hlt => ⟨⟨h0, hlt⟩, fun _ => ?_⟩, fun hge => ?_⟩
  · have hx := ix_get h0 hlt
    have kx := hf _ (List.mem_of_getElem? hx)
    refine ⟨10, below_ok h hl 10 kx (fuel_ok h hl kx) h2.io fun s' i a b c d => ⟨by unfold I64; unfold Len at hlen; omega, ⟨by dsimp only; omega, by dsimp only; omega, ?_⟩, by dsimp only; omega⟩⟩
    have e : fs.take (x + 1).toNat = fs.take x.toNat ++ [ix fs x] := by
      have : (x + 1).toNat = x.toNat + 1 := by omega
      rw [this, List.take_add_one, hx]; rfl
    dsimp only; rw [e]; exact h2.more i a b c d
  · have : x.toNat = fs.length := by omega
    rw [this, List.take_length] at h2
    exact k s h2
theorem size_len (h : Ok n order level G T) {s : List (Int × Int)} (hs : InOk T s) : s.length ≤ T.ms.length := by
  have := nodup_sub_len (l := keys s) (m := T.ms.map (·.2)) hs.nd fun x hx => by
    obtain ⟨p, hp, rfl⟩ := List.mem_map.1 hx
    obtain ⟨k, hk⟩ := (hs.one p hp).2
    exact List.mem_map.2 ⟨_, hk, rfl⟩
  simpa [keys] using this
theorem Size_ok (h : Ok n order level G T) (hl : T.lim = []) {fs : List Int} (hf : ∀ f ∈ fs, T.kn f) {Q : Int → Prop} (k : ∀ s, AllOk T fs s → Q s.length) : V_Size T.nodes T.free T.ms order level T.memo fs Q :=
  all_ok h hl hf fun s hs => ⟨by have := size_len h hs.io; have := h.cap hl; unfold CAP at this; unfold Len; omega, k s hs⟩
theorem ix_set {α : Type} [Inhabited α] {xs : List α} {i j : Int} {v : α} (h0 : 0 ≤ i) (h1 : i < xs.length) (hj : 0 ≤ j) : ix (xs.set i.toNat v) j = if j = i then v else ix xs j := by
  unfold ix
  rw [List.getD_eq_getElem?_getD, List.getD_eq_getElem?_getD]
  by_cases e : j = i
  · subst e; rw [List.getElem?_set_self (by omega), if_pos rfl]; rfl
  · rw [List.getElem?_set_ne (by omega), if_neg e]
/-! ### Nodes forgotten -/
theorem left_zero {κ ν : Type} [DecidableEq κ] {m : List (κ × ν)} {sn : List κ} : 0 ≤ left m sn := Nat.zero_le _
theorem forgetK_ok (h : Ok n order level G T) (hl : T.lim = []) {s : List (Int × Int)} (hs : InOk T s) (hd : ∀ x ∈ keys s, down T s x)
    {Q : List Int → Mp → Mp → Prop} (k : ∀ T', Ok n order level G T' → T'.nodes = T.nodes → T'.F = T.F → T'.lim = [] → T'.memo = [] → (∀ p, p ∈ T'.ms ↔ p ∈ T.ms ∧ p.2 ∈ keys s) → Q T'.free T'.ms T'.memo) :
    V_forgetK T.nodes T.free T.ms order level T.memo s Q := by
  have hcap := h.cap hl
  have hfull := h.full
  rw [hl] at hfull hcap
  have hnl := h.nl
  unfold CAP at hnl
  refine ⟨fun st => (st.1.map (·.1)).Nodup ∧ (∀ p ∈ st.1, p ∈ T.ms) ∧ (∀ p ∈ T.ms, p.1 ∉ st.2 → p ∈ st.1) ∧ (∀ p ∈ T.ms, p.1 ∈ st.2 → (p ∈ st.1 ↔ p.2 ∈ keys s)), fun st => left T.ms st.2, ⟨h.keys, fun _ h => h, fun _ h _ => h, fun _ _ h => by cases h⟩, ?_⟩
  rintro ⟨c, sn⟩ ⟨g1, g2, g3, g4⟩
  dsimp only at g1 g2 g3 g4
  refine ⟨fun hall => ⟨⟨by omega, by omega⟩, fun hL => ⟨⟨by omega, by omega, by unfold Len at hL; omega⟩, ?_⟩⟩, fun key e hm hk _ _ => ?_⟩
  · have hc : ∀ p, p ∈ c ↔ p ∈ T.ms ∧ p.2 ∈ keys s := fun p => by
      constructor
      · intro hp; exact ⟨g2 p hp, (g4 p (g2 p hp) (hall p hp)).1 hp⟩
      · rintro ⟨hp, hq⟩
        by_cases h1 : p.1 ∈ sn
        · exact (g4 p hp h1).2 hq
        · exact g3 p hp h1
    refine ⟨fun st => st.1.length = T.nodes.length ∧ (∀ i : Int, 0 ≤ i → i < T.nodes.length → (ix st.1 i = true ↔ ∃ p ∈ c, p.1 ∈ st.2 ∧ p.2 = i)), fun st => left c st.2, ⟨by simp, fun i h0 h1 => ?_⟩, ?_⟩
    · have : i.toNat < T.nodes.length := by omega
      simp [ix, this]
    · rintro ⟨used, sn2⟩ ⟨u1, u2⟩
      dsimp only at u1 u2
      refine ⟨fun hall2 _ => ?_, fun key e hm hk _ _ => ?_⟩
      · have hu : ∀ i : Int, 0 ≤ i → i < T.nodes.length → (ix used i = true ↔ ∃ p ∈ c, p.2 = i) := fun i h0 h1 => by
          rw [u2 i h0 h1]
          exact ⟨fun ⟨p, hp, _, e⟩ => ⟨p, hp, e⟩, fun ⟨p, hp, e⟩ => ⟨p, hp, hall2 p hp, e⟩⟩
        have h2 := h.two
        refine ⟨by unfold I64; omega, fun st => 1 ≤ st.2 ∧ st.2 < T.nodes.length ∧ st.1.Nodup ∧ (∀ i : Int, i ∈ st.1 ↔ st.2 < i ∧ i < T.nodes.length ∧ ¬ ∃ p ∈ c, p.2 = i), fun st => (st.2 - 1).toNat, ⟨by dsimp only; omega, by dsimp only; omega, by simp, fun i => ?_⟩, ?_⟩
        · simp; intro a b; omega
        · rintro ⟨fr, x⟩ ⟨f1, f2, f3, f4⟩
          dsimp only at f1 f2 f3 f4
          refine ⟨fun hgt => ⟨fun fr' => fr'.Nodup ∧ (∀ i : Int, i ∈ fr' ↔ x - 1 < i ∧ i < T.nodes.length ∧ ¬ ∃ p ∈ c, p.2 = i), fun fr' ⟨q1, q2⟩ => ⟨by unfold I64; omega, ⟨by dsimp only; omega, by dsimp only; omega, q1, q2⟩, by dsimp only; omega⟩, ⟨by omega, by rw [u1]; exact f2⟩, fun hb => ?_, fun hb => ?_⟩, fun hle => ?_⟩
          · have hx : ¬ ∃ p ∈ c, p.2 = x := fun he => by rw [(hu x (by omega) f2).2 he] at hb; cases hb
            have hlen : fr.length ≤ T.nodes.length := by
              have := nodup_sub_len (l := fr) (m := (List.range T.nodes.length).map fun i : Nat => (i : Int)) f3 fun i hi => by
                have := (f4 i).1 hi
                exact List.mem_map.2 ⟨i.toNat, List.mem_range.2 (by omega), by omega⟩
              simpa using this
            refine ⟨⟨by simp; omega, by simp; unfold maxLen; omega⟩, ?_, fun i => ?_⟩
            · rw [List.nodup_append]
              refine ⟨f3, by simp, fun y hy z hz e => ?_⟩
              simp at hz; subst hz; subst e
              have := (f4 y).1 hy; omega
            · rw [List.mem_append, f4 i, List.mem_singleton]
              constructor
              · rintro (h | h)
                · exact ⟨by omega, h.2⟩
                · subst h; exact ⟨by omega, f2, hx⟩
              · rintro ⟨h1, h2, h3⟩
                by_cases e : i = x
                · exact .inr e
                · exact .inl ⟨by omega, h2, h3⟩
          · have hx : ∃ p ∈ c, p.2 = x := (hu x (by omega) f2).1 (by simpa using hb)
            refine ⟨f3, fun i => ?_⟩
            rw [f4 i]
            constructor
            · rintro ⟨a, b⟩; exact ⟨by omega, b⟩
            · rintro ⟨a, b, d⟩
              refine ⟨?_, b, d⟩
              by_cases e : i = x
              · subst e; exact absurd hx d
              · omega
          · have hx1 : x = 1 := by omega
            subst hx1
            have hlive : ∀ i, (∃ key, (key, i) ∈ c) → T.live i := fun i ⟨key, hk⟩ => ⟨key, g2 _ hk⟩
            have hkn' : ∀ i, i ≤ 1 ∨ i ∈ keys s → T.kn i → ({ nodes := T.nodes, free := fr, ms := c, memo := [], F := T.F, lim := [] } : Tb).kn i := fun i hi hk => by
              rcases h.kn_case hl hk with rfl | rfl | ⟨key, k1, k2⟩
              · exact kn_zero
              · exact kn_one
              · have := k2.i2
                exact kn_live ⟨key, (hc _).2 ⟨k1, hi.resolve_left (by omega)⟩⟩
            refine k { nodes := T.nodes, free := fr, ms := c, memo := [], F := T.F, lim := [] } ⟨h.ord, h.two, h.f0, h.f1, g1, fun key i hk => ?_, fun i hi => (by cases hi), List.nodup_nil, fun _ _ _ _ hm => (by cases hm), f3, fun i hi => ?_, ?_, fun i hi => ?_, h.gs, h.gl, h.bs, h.nl⟩ rfl rfl rfl rfl hc
            · obtain ⟨a1, a2⟩ := (hc _).1 hk
              obtain ⟨b1, b2, b3, b4, b5, b6, b7, b8, b9, b10, b11⟩ := h.ent key i a1
              have := hd i a2 key a1
              exact ⟨b1, b2, b3, b4, b5, b6, hkn' _ this.1 b7, hkn' _ this.2 b8, b9, b10, b11⟩
            · have := (f4 i).1 hi
              refine ⟨by omega, this.2.1, fun hk => ?_⟩
              rcases hk with hk | hk | ⟨key, hk⟩ | hk
              · omega
              · omega
              · exact this.2.2 ⟨_, hk, rfl⟩
              · cases hk
            · -- all places
              have hvn : (c.map (·.2)).Nodup := by
                have key : ∀ l : Mp, (l.map (·.1)).Nodup → (∀ p ∈ l, p ∈ T.ms) → (l.map (·.2)).Nodup := by
                  intro l
                  induction l with
                  | nil => intro _ _; simp
                  | cons p l ih =>
                    intro h1 h2
                    rw [List.map_cons, List.nodup_cons] at h1 ⊢
                    refine ⟨fun hm => ?_, ih h1.2 fun q hq => h2 q (List.mem_cons_of_mem _ hq)⟩
                    obtain ⟨q, hq, hqe⟩ := List.mem_map.1 hm
                    have a1 := (h.ent q.1 q.2 (h2 q (List.mem_cons_of_mem _ hq))).at_
                    have a2 := (h.ent p.1 p.2 (h2 p (by simp))).at_
                    rw [hqe, a2] at a1
                    exact h1.1 (List.mem_map.2 ⟨q, hq, a1.symm⟩)
                exact key c g1 g2
              have hnd : (c.map (·.2) ++ fr).Nodup := by
                rw [List.nodup_append]
                refine ⟨hvn, f3, fun y hy z hz e => ?_⟩
                subst e
                obtain ⟨p, hp, rfl⟩ := List.mem_map.1 hy
                exact ((f4 _).1 hz).2.2 ⟨p, hp, rfl⟩
              have l1 := nodup_sub_len (m := (List.range (T.nodes.length - 2)).map fun i : Nat => ((i + 2 : Nat) : Int)) hnd fun y hy => by
                have hy' : 2 ≤ y ∧ y < T.nodes.length := by
                  rcases List.mem_append.1 hy with hy | hy
                  · obtain ⟨p, hp, rfl⟩ := List.mem_map.1 hy
                    have := h.ent p.1 p.2 (g2 p hp)
                    exact ⟨this.i2, this.il⟩
                  · have := (f4 y).1 hy; omega
                exact List.mem_map.2 ⟨y.toNat - 2, List.mem_range.2 (by omega), by omega⟩
              have l2 := nodup_sub_len (l := (List.range (T.nodes.length - 2)).map fun i : Nat => ((i + 2 : Nat) : Int)) (m := c.map (·.2) ++ fr) (by
                rw [List.Nodup, List.pairwise_map]
                exact List.nodup_range.imp fun hne e => hne (by omega)) fun y hy => by
                obtain ⟨q, hq, rfl⟩ := List.mem_map.1 hy
                have hq := List.mem_range.1 hq
                by_cases he : ∃ p ∈ c, p.2 = ((q + 2 : Nat) : Int)
                · obtain ⟨p, hp, e⟩ := he
                  exact List.mem_append_left _ (List.mem_map.2 ⟨p, hp, e⟩)
                · exact List.mem_append_right _ ((f4 _).2 ⟨by omega, by omega, he⟩)
              simp at l1 l2
              show T.nodes.length = 2 + c.length + ([] : List Int).length + fr.length
              simp; omega
            · rcases hi with ⟨key, hi⟩ | hi
              · exact h.cl i (.inl ⟨key, g2 _ hi⟩)
              · cases hi
      · have he := h.ent _ _ (g2 _ hm)
        have e2 := he.i2; have e3 := he.il
        refine ⟨⟨by omega, by rw [u1]; exact e3⟩, ⟨by simpa using u1, fun i h0 h1 => ?_⟩, left_lt hm hk⟩
        dsimp only
        rw [ix_set (by omega) (by rw [u1]; exact e3) h0]
        by_cases hie : i = e
        · subst hie
          rw [if_pos rfl]
          exact ⟨fun _ => ⟨_, hm, by simp, rfl⟩, fun _ => rfl⟩
        · rw [if_neg hie, u2 i h0 h1]
          constructor
          · rintro ⟨p, hp, h1, h2⟩; exact ⟨p, hp, List.mem_cons_of_mem _ h1, h2⟩
          · rintro ⟨p, hp, h1, h2⟩
            refine ⟨p, hp, ?_, h2⟩
            rcases List.mem_cons.1 h1 with h1 | h1
            · exfalso
              have a1 := mfind_of_mem g1 hp
              rw [h1, mfind_of_mem g1 hm] at a1
              exact hie (by rw [← h2]; exact (Option.some.inj a1).symm)
            · exact h1
  · have hkt : (key.1, key.2.1, key.2.2) = key := rfl
    rw [hkt]
    have hval : ∀ p ∈ T.ms, p.1 = key → p.2 = e := fun p hp hpk => by
      have a1 := mfind_of_mem h.keys hp
      rw [hpk, mfind_of_mem h.keys (g2 _ hm)] at a1
      exact (Option.some.inj a1).symm
    refine fun _ => ⟨fun hg => ⟨⟨(mdel_sub.map _).nodup g1, fun p hp => g2 p (mdel_sub.mem hp), fun p hp hn => ?_, fun p hp hsn => ?_⟩, left_lt (g2 _ hm) hk⟩, fun hg => ⟨⟨g1, g2, fun p hp hn => g3 p hp fun hc => hn (List.mem_cons_of_mem _ hc), fun p hp hsn => ?_⟩, left_lt (g2 _ hm) hk⟩⟩
    · rw [mem_mdel g1]
      simp only [List.mem_cons, not_or] at hn
      exact ⟨g3 p hp hn.2, hn.1⟩
    · dsimp only
      rw [mem_mdel g1]
      rcases List.mem_cons.1 hsn with e1 | e1
      · have := hval p hp e1
        constructor
        · rintro ⟨_, hne⟩; exact absurd e1 hne
        · intro hin; rw [this] at hin
          exact absurd (hs.get.2 hin) (by simpa using hg)
      · constructor
        · rintro ⟨a, _⟩; exact (g4 p hp e1).1 a
        · intro a; exact ⟨(g4 p hp e1).2 a, fun e2 => hk (e2 ▸ e1)⟩
    · dsimp only
      rcases List.mem_cons.1 hsn with e1 | e1
      · have := hval p hp e1
        have hin : e ∈ keys s := hs.get.1 (by simpa using hg)
        constructor
        · intro _; rw [this]; exact hin
        · intro _; have hpe : p = (key, e) := by rw [← e1, ← this]
          rw [hpe]; exact hm
      · exact g4 p hp e1
end Go.Vc
