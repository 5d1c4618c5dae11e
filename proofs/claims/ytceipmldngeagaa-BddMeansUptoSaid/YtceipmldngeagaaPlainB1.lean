/- Diagrams in plain words: tables of nodes, what each node is; nodes that are the same function are the same. No program in sight. -/
import Derived.Test.YtceipmldngeagaaConds
set_option linter.unusedVariables false
set_option linter.unusedSimpArgs false
namespace Go.Vc
section maps
variable {κ ν : Type} [DecidableEq κ]
theorem mfind_some : ∀ {m : List (κ × ν)} {k : κ} {v : ν}, mfind m k = some v → (k, v) ∈ m
  | p :: m, k, v, h => by
    unfold mfind at h
    split at h
    · rename_i e; cases h; subst e; simp
    · exact List.mem_cons_of_mem _ (mfind_some h)
theorem mfind_none : ∀ {m : List (κ × ν)} {k : κ}, mfind m k = none → ∀ p ∈ m, p.1 ≠ k
  | p :: m, k, h, q, hq => by
    unfold mfind at h
    split at h
    · cases h
    · rename_i e
      rcases List.mem_cons.1 hq with rfl | hq
      · exact fun h => e h.symm
      · exact mfind_none h q hq
theorem mfind_of_mem {m : List (κ × ν)} (hn : (m.map (·.1)).Nodup) {k : κ} {v : ν} (h : (k, v) ∈ m) : mfind m k = some v := by
  induction m with
  | nil => cases h
  | cons p m ih =>
    rw [List.map_cons, List.nodup_cons] at hn
    unfold mfind
    rcases List.mem_cons.1 h with rfl | h
    · simp
    · have : ¬ k = p.1 := fun e => hn.1 (by rw [← e]; exact List.mem_map_of_mem (f := (·.1)) h)
      rw [if_neg this]; exact ih hn.2 h
theorem mhas_iff {m : List (κ × ν)} {k : κ} : mhas m k = true ↔ ∃ v, mfind m k = some v := by unfold mhas; cases mfind m k <;> simp
theorem mhas_true {m : List (κ × ν)} {k : κ} {d : ν} (h : mhas m k = true) : (k, mgetD m k d) ∈ m := by
  obtain ⟨v, hv⟩ := mhas_iff.1 h
  unfold mgetD; rw [hv]; exact mfind_some hv
theorem mhas_false {m : List (κ × ν)} {k : κ} (h : mhas m k = false) : ∀ p ∈ m, p.1 ≠ k := by
  unfold mhas at h; exact mfind_none (by cases e : mfind m k <;> simp [e] at h ⊢)
theorem mset_new {m : List (κ × ν)} {k : κ} {v : ν} (h : mhas m k = false) : mset m k v = m ++ [(k, v)] := mset_none (mhas_false h)
theorem mem_mset : ∀ {m : List (κ × ν)} {k : κ} {v : ν} {p : κ × ν}, p ∈ mset m k v → p = (k, v) ∨ p ∈ m
  | [], k, v, p, h => by simp [mset] at h; exact .inl h
  | q :: m, k, v, p, h => by
    unfold mset at h
    split at h
    · rcases List.mem_cons.1 h with h | h
      · exact .inl h
      · exact .inr (List.mem_cons_of_mem _ h)
    · rcases List.mem_cons.1 h with h | h
      · exact .inr (by simp [h])
      · rcases mem_mset h with h | h
        · exact .inl h
        · exact .inr (List.mem_cons_of_mem _ h)
theorem mdel_sub : ∀ {m : List (κ × ν)} {k : κ}, (mdel m k).Sublist m
  | [], k => by simp [mdel]
  | p :: m, k => by
    unfold mdel
    split
    · exact List.sublist_cons_self p m
    · exact mdel_sub.cons_cons p
theorem mem_mdel {m : List (κ × ν)} (hn : (m.map (·.1)).Nodup) {k : κ} {p : κ × ν} : p ∈ mdel m k ↔ p ∈ m ∧ p.1 ≠ k := by
  induction m with
  | nil => simp [mdel]
  | cons q m ih =>
    rw [List.map_cons, List.nodup_cons] at hn
    unfold mdel
    split
    · rename_i e
      constructor
      · intro h; exact ⟨List.mem_cons_of_mem _ h, fun e' => hn.1 (by rw [← e, ← e']; exact List.mem_map_of_mem (f := (·.1)) h)⟩
      · rintro ⟨h, h2⟩
        rcases List.mem_cons.1 h with rfl | h
        · exact absurd e.symm h2
        · exact h
    · rename_i e
      rw [List.mem_cons, List.mem_cons, ih hn.2]
      constructor
      · rintro (rfl | h)
        · exact ⟨.inl rfl, fun h => e h.symm⟩
        · exact ⟨.inr h.1, h.2⟩
      · rintro ⟨rfl | h, h2⟩
        · exact .inl rfl
        · exact .inr ⟨h, h2⟩
theorem mdel_len : ∀ {m : List (κ × ν)} {k : κ} {v : ν}, (k, v) ∈ m → (mdel m k).length + 1 = m.length
  | q :: m, k, v, h => by
    unfold mdel
    split
    · rfl
    · rename_i e
      rcases List.mem_cons.1 h with rfl | h
      · exact absurd rfl e
      · simp [mdel_len h]
/-- So many keys are not yet seen. -/
def left (m : List (κ × ν)) (sn : List κ) : Nat := (m.filter fun p => decide (p.1 ∉ sn)).length
theorem left_lt {m : List (κ × ν)} {sn : List κ} {k : κ} {v : ν} (h : (k, v) ∈ m) (hk : k ∉ sn) : left m (k :: sn) < left m sn := by
  unfold left
  induction m with
  | nil => cases h
  | cons q m ih =>
    have hle : ∀ m : List (κ × ν), (m.filter fun p => decide (p.1 ∉ k :: sn)).length ≤ (m.filter fun p => decide (p.1 ∉ sn)).length := by
      intro m
      induction m with
      | nil => simp
      | cons q m ih =>
        rw [List.filter_cons, List.filter_cons]
        by_cases h1 : q.1 ∈ sn
        · simp [h1]; simpa using ih
        · by_cases h2 : q.1 = k
          · simp [h1, h2, hk]; have := ih; simp at this; omega
          · simp [h1, h2]; simpa using ih
    rw [List.filter_cons, List.filter_cons]
    rcases List.mem_cons.1 h with rfl | h
    · simp [hk]; have := hle m; simp at this; omega
    · have ih := ih h
      by_cases h1 : q.1 ∈ sn
      · simp [h1] at ih ⊢; exact ih
      · by_cases h2 : q.1 = k
        · simp [h1, h2, hk] at ih ⊢; omega
        · simp [h1, h2] at ih ⊢; exact ih
end maps
theorem nodup_sub_len {α : Type} : ∀ {l m : List α}, l.Nodup → (∀ x ∈ l, x ∈ m) → l.length ≤ m.length
  | [], _, _, _ => by simp
  | x :: l, m, hn, hs => by
    obtain ⟨m1, m2, rfl⟩ := List.append_of_mem (hs x (by simp))
    rw [List.nodup_cons] at hn
    have := nodup_sub_len (l := l) (m := m1 ++ m2) hn.2 (fun y hy => by
      have := hs y (List.mem_cons_of_mem _ hy)
      rcases List.mem_append.1 this with h | h
      · exact List.mem_append_left _ h
      · rcases List.mem_cons.1 h with rfl | h
        · exact absurd hy hn.1
        · exact List.mem_append_right _ h)
    simp at this ⊢; omega

abbrev Nds := List (Int × Int × Int)
abbrev Mp := List ((Int × Int × Int) × Int)
/-- Values of the variables; functions of them. -/
abbrev Env := Int → Bool
abbrev Fn := Env → Bool
def upd (e : Env) (v : Int) (b : Bool) : Env := fun i => if i = v then b else e i
def sel (v : Int) (f g : Fn) : Fn := fun e => if e v then g e else f e
def iteF (f g h : Fn) : Fn := fun e => if f e then g e else h e
def cof (f : Fn) (v : Int) (b : Bool) : Fn := fun e => f (upd e v b)
def Sup (n : Int) (f : Fn) : Prop := ∀ e e' : Env, (∀ i, 0 ≤ i → i < n → e i = e' i) → f e = f e'
theorem upd_self (e : Env) (v : Int) : upd e v (e v) = e := by funext i; unfold upd; split <;> simp_all
theorem upd_get (e : Env) (v : Int) (b : Bool) : upd e v b v = b := by simp [upd]
theorem upd_ne {e : Env} {v w : Int} {b : Bool} (h : w ≠ v) : upd e v b w = e w := by simp [upd, h]
theorem upd_upd (e : Env) (v : Int) (a b : Bool) : upd (upd e v a) v b = upd e v b := by funext i; unfold upd; split <;> rfl
theorem upd_comm {e : Env} {v w : Int} {a b : Bool} (h : v ≠ w) : upd (upd e v a) w b = upd (upd e w b) v a := by
  funext i; unfold upd; by_cases h1 : i = v <;> by_cases h2 : i = w <;> simp_all
theorem sel_cof (f : Fn) (v : Int) : sel v (cof f v false) (cof f v true) = f := by
  funext e; unfold sel cof
  have := upd_self e v
  cases h : e v <;> rw [h] at this <;> simp [this]
theorem cof_sel {v : Int} {f g : Fn} (hf : ∀ b, cof f v b = f) (hg : ∀ b, cof g v b = g) (b : Bool) : cof (sel v f g) v b = if b then g else f := by
  funext e; unfold cof sel; rw [upd_get]
  cases b
  · have := congrFun (hf false) e; unfold cof at this; simpa using this
  · have := congrFun (hg true) e; unfold cof at this; simpa using this
theorem cof_sel_ne {v w : Int} {f g : Fn} (h : w ≠ v) (b : Bool) : cof (sel v f g) w b = sel v (cof f w b) (cof g w b) := by
  funext e; unfold cof sel; rw [upd_ne (Ne.symm h)]
theorem cof_ite {f g h : Fn} {v : Int} {b : Bool} : cof (iteF f g h) v b = iteF (cof f v b) (cof g v b) (cof h v b) := rfl
theorem cof_cof (f : Fn) (v : Int) (a b : Bool) : cof (cof f v a) v b = cof f v a := by funext e; unfold cof; rw [upd_upd]
/-- Functions with some values given. -/
def rst (p : Int → Option Bool) (g : Fn) : Fn := fun e => g fun i => (p i).getD (e i)
def Cl (G : List Fn) (f : Fn) : Prop := ∃ g ∈ G, ∃ p, f = rst p g
theorem Cl.cof {G : List Fn} {f : Fn} (h : Cl G f) (v : Int) (b : Bool) : Cl G (cof f v b) := by
  obtain ⟨g, hg, p, rfl⟩ := h
  refine ⟨g, hg, fun i => if i = v then some ((p v).getD b) else p i, ?_⟩
  funext e; unfold Go.Vc.cof rst upd
  congr 1; funext i
  by_cases h : i = v
  · subst h; simp
  · simp [h]
theorem Cl.self {G : List Fn} {f : Fn} (h : f ∈ G) : Cl G f := ⟨f, h, fun _ => none, rfl⟩
theorem Cl.mono {G K : List Fn} {f : Fn} (h : Cl G f) (hs : ∀ g ∈ G, g ∈ K) : Cl K f := by obtain ⟨g, hg, p, e⟩ := h; exact ⟨g, hs g hg, p, e⟩
theorem Cl.sup {n : Int} {G : List Fn} (hG : ∀ g ∈ G, Sup n g) {f : Fn} (h : Cl G f) : Sup n f := by
  obtain ⟨g, hg, p, rfl⟩ := h
  intro e e' he
  refine hG g hg _ _ fun i h0 h1 => ?_
  simp only [he i h0 h1]
def pas : Nat → List (List (Option Bool))
  | 0 => [[]]
  | k + 1 => (pas k).flatMap fun p => [none :: p, some false :: p, some true :: p]
theorem pas_length : ∀ k, (pas k).length = 3 ^ k
  | 0 => rfl
  | k + 1 => by
    unfold pas
    rw [List.length_flatMap]
    have : ∀ l : List (List (Option Bool)), (l.map fun p => [none :: p, some false :: p, some true :: p].length).sum = 3 * l.length := by
      intro l; induction l with
      | nil => rfl
      | cons a l ih => simp [List.sum_cons] at ih ⊢; omega
    rw [this, pas_length k, Nat.pow_succ]; omega
theorem mem_pas : ∀ {k : Nat} {p : List (Option Bool)}, p.length = k → p ∈ pas k
  | 0, p, h => by simp [List.length_eq_zero_iff.1 h, pas]
  | k + 1, a :: p, h => by
    unfold pas
    refine List.mem_flatMap.2 ⟨p, mem_pas (by simpa using h), ?_⟩
    cases a with
    | none => simp
    | some b => cases b <;> simp
def ofL (p : List (Option Bool)) : Int → Option Bool := fun i => if 0 ≤ i then p.getD i.toNat none else none
theorem Cl.enum {n : Int} {G : List Fn} (h0 : 0 ≤ n) (hG : ∀ g ∈ G, Sup n g) {f : Fn} (h : Cl G f) : f ∈ G.flatMap fun g => (pas n.toNat).map fun p => rst (ofL p) g := by
  obtain ⟨g, hg, p, rfl⟩ := h
  refine List.mem_flatMap.2 ⟨g, hg, List.mem_map.2 ⟨(List.range n.toNat).map fun i : Nat => p i, mem_pas (by simp), ?_⟩⟩
  funext e
  refine hG g hg _ _ fun i hi hn => ?_
  have : i.toNat < n.toNat := by omega
  have h2 : ((i.toNat : Nat) : Int) = i := by omega
  simp [ofL, hi, this, h2]
theorem Cl.count {n : Int} {G : List Fn} (h0 : 0 ≤ n) (hG : ∀ g ∈ G, Sup n g) {l : List Fn} (hn : l.Nodup) (hl : ∀ f ∈ l, Cl G f) : l.length ≤ G.length * 3 ^ n.toNat := by
  refine Nat.le_trans (nodup_sub_len hn fun f hf => (hl f hf).enum h0 hG) ?_
  rw [List.length_flatMap]
  have : ∀ G : List Fn, (G.map fun g => ((pas n.toNat).map fun p => rst (ofL p) g).length).sum = G.length * 3 ^ n.toNat := by
    intro G; induction G with
    | nil => simp
    | cons a l ih => rw [List.map_cons, List.sum_cons, ih, List.length_map, pas_length, List.length_cons, Nat.add_mul]; omega
  rw [this]; exact Nat.le_refl _

/-- An order of the variables, and the levels in it. -/
structure Ord (n : Int) (order level : List Int) : Prop where
  n0 : 0 ≤ n
  n9 : n ≤ 9
  lo : (order.length : Int) = n
  ll : (level.length : Int) = n
  ol : ∀ l, 0 ≤ l → l < n → 0 ≤ ix order l ∧ ix order l < n ∧ ix level (ix order l) = l
  lv : ∀ v, 0 ≤ v → v < n → 0 ≤ ix level v ∧ ix level v < n ∧ ix order (ix level v) = v
/-- A table: its nodes; what each is; nodes that are about to be turned. -/
structure Tb where
  nodes : Nds
  free : List Int
  ms : Mp
  memo : Mp
  F : Int → Fn
  lim : List Int
def Tb.live (T : Tb) (i : Int) : Prop := ∃ k, (k, i) ∈ T.ms
def Tb.kn (T : Tb) (i : Int) : Prop := i = 0 ∨ i = 1 ∨ T.live i ∨ i ∈ T.lim
def dp (n : Int) (level : List Int) (nodes : Nds) (i : Int) : Int := if i ≤ 1 then n else ix level (ix nodes i).1
/-- What an entry of the table says. -/
structure Ent (n : Int) (level : List Int) (T : Tb) (k : Int × Int × Int) (i : Int) : Prop where
  i2 : 2 ≤ i
  il : i < T.nodes.length
  at_ : ix T.nodes i = k
  v0 : 0 ≤ k.1
  vn : k.1 < n
  ne : k.2.1 ≠ k.2.2
  kl : T.kn k.2.1
  ku : T.kn k.2.2
  dl : ix level k.1 < dp n level T.nodes k.2.1
  du : ix level k.1 < dp n level T.nodes k.2.2
  F : T.F i = sel k.1 (T.F k.2.1) (T.F k.2.2)
def CAP : Nat := 5708070000000
structure Ok (n : Int) (order level : List Int) (G : List Fn) (T : Tb) : Prop where
  ord : Ord n order level
  two : 2 ≤ T.nodes.length
  f0 : T.F 0 = fun _ => false
  f1 : T.F 1 = fun _ => true
  keys : (T.ms.map (·.1)).Nodup
  ent : ∀ k i, (k, i) ∈ T.ms → Ent n level T k i
  limr : ∀ i ∈ T.lim, 2 ≤ i ∧ i < T.nodes.length ∧ ¬ T.live i
  limn : T.lim.Nodup
  mem : ∀ f g h r, ((f, g, h), r) ∈ T.memo → T.kn f ∧ T.kn g ∧ T.kn h ∧ T.kn r ∧ T.F r = iteF (T.F f) (T.F g) (T.F h)
  frn : T.free.Nodup
  fr : ∀ i ∈ T.free, 2 ≤ i ∧ i < T.nodes.length ∧ ¬ T.kn i
  full : T.nodes.length = 2 + T.ms.length + T.lim.length + T.free.length
  cl : ∀ i, T.live i ∨ i ∈ T.lim → Cl G (T.F i)
  gs : ∀ g ∈ G, Sup n g
  gl : G.length ≤ 290000000
  bs : (∀ b, Cl G fun _ => b) ∧ ∀ v, 0 ≤ v → v < n → Cl G fun e => e v
  nl : T.nodes.length ≤ CAP + 3
variable {n : Int} {order level : List Int} {G : List Fn} {T : Tb}
theorem kn_zero : T.kn 0 := .inl rfl
theorem kn_one : T.kn 1 := .inr (.inl rfl)
theorem kn_live {i : Int} (h : T.live i) : T.kn i := .inr (.inr (.inl h))
theorem Ok.kn_case (h : Ok n order level G T) (hl : T.lim = []) {i : Int} (hk : T.kn i) : i = 0 ∨ i = 1 ∨ ∃ k, (k, i) ∈ T.ms ∧ Ent n level T k i := by
  rcases hk with h1 | h1 | ⟨k, h1⟩ | h1
  · exact .inl h1
  · exact .inr (.inl h1)
  · exact .inr (.inr ⟨k, h1, h.ent k i h1⟩)
  · rw [hl] at h1; cases h1
theorem Ent.dp {k : Int × Int × Int} {i : Int} (h : Ent n level T k i) : dp n level T.nodes i = ix level k.1 := by
  unfold Go.Vc.dp; rw [if_neg (by have := h.i2; omega), h.at_]
theorem dp_end {i : Int} {nodes : Nds} (h : i ≤ 1) : dp n level nodes i = n := by unfold dp; rw [if_pos h]
theorem Ok.dp_le (h : Ok n order level G T) (hl : T.lim = []) {i : Int} (hk : T.kn i) : 0 ≤ dp n level T.nodes i ∧ dp n level T.nodes i ≤ n := by
  have := h.ord.n0
  rcases h.kn_case hl hk with rfl | rfl | ⟨k, h1, h2⟩
  · rw [dp_end (by omega)]; omega
  · rw [dp_end (by omega)]; omega
  · rw [h2.dp]; have := h.ord.lv k.1 h2.v0 h2.vn; omega
theorem Ok.nonneg (h : Ok n order level G T) {i : Int} (hk : T.kn i) : 0 ≤ i ∧ i < T.nodes.length := by
  have := h.two
  rcases hk with rfl | rfl | ⟨k, h1⟩ | h1
  · omega
  · omega
  · have := (h.ent _ _ h1).i2; have := (h.ent _ _ h1).il; omega
  · have := h.limr _ h1; omega
/-- A node does not hang on what lies above it. -/
theorem Ok.indep (h : Ok n order level G T) (hl : T.lim = []) : ∀ (m : Nat) {i : Int}, T.kn i → n - dp n level T.nodes i ≤ m → ∀ {v : Int}, 0 ≤ v → v < n → ix level v < dp n level T.nodes i → ∀ b, cof (T.F i) v b = T.F i := by
  intro m
  induction m with
  | zero =>
    intro i hk hm v h0 h1 h2 b
    rcases h.kn_case hl hk with rfl | rfl | ⟨k, h3, h4⟩
    · rw [h.f0]; rfl
    · rw [h.f1]; rfl
    · rw [h4.dp] at hm; have := h.ord.lv k.1 h4.v0 h4.vn; omega
  | succ m ih =>
    intro i hk hm v h0 h1 h2 b
    rcases h.kn_case hl hk with rfl | rfl | ⟨k, h3, h4⟩
    · rw [h.f0]; rfl
    · rw [h.f1]; rfl
    · have hdl := h4.dl; have hdu := h4.du
      rw [h4.dp] at hm h2
      have hne : v ≠ k.1 := fun e => by subst e; omega
      rw [h4.F, cof_sel_ne hne, ih h4.kl (by omega) h0 h1 (by omega) b, ih h4.ku (by omega) h0 h1 (by omega) b]
theorem Ok.ind (h : Ok n order level G T) (hl : T.lim = []) {i : Int} (hk : T.kn i) {v : Int} (h0 : 0 ≤ v) (h1 : v < n) (h2 : ix level v < dp n level T.nodes i) (b : Bool) : cof (T.F i) v b = T.F i :=
  h.indep hl (n - dp n level T.nodes i).toNat hk (by omega) h0 h1 h2 b
/-- What is below an entry. -/
theorem Ok.cofs (h : Ok n order level G T) (hl : T.lim = []) {k : Int × Int × Int} {i : Int} (he : Ent n level T k i) (b : Bool) : cof (T.F i) k.1 b = if b then T.F k.2.2 else T.F k.2.1 := by
  rw [he.F]
  exact cof_sel (h.ind hl he.kl he.v0 he.vn he.dl) (h.ind hl he.ku he.v0 he.vn he.du) b
/-- Two nodes that are one function are one. -/
theorem Ok.canon (h : Ok n order level G T) (hl : T.lim = []) : ∀ (m : Nat) {i j : Int}, T.kn i → T.kn j → n - dp n level T.nodes i ≤ m → n - dp n level T.nodes j ≤ m → T.F i = T.F j → i = j := by
  intro m
  induction m with
  | zero =>
    intro i j hi hj h1 h2 he
    have e01 : T.F 0 ≠ T.F 1 := by rw [h.f0, h.f1]; intro e; exact absurd (congrFun e fun _ => false) (by simp)
    rcases h.kn_case hl hi with rfl | rfl | ⟨k, h3, h4⟩ <;> rcases h.kn_case hl hj with rfl | rfl | ⟨k', h3', h4'⟩
    all_goals first
      | rfl
      | exact absurd he e01
      | exact absurd he.symm e01
      | (rw [h4'.dp] at h2; have := h.ord.lv k'.1 h4'.v0 h4'.vn; omega)
      | (rw [h4.dp] at h1; have := h.ord.lv k.1 h4.v0 h4.vn; omega)
  | succ m ih =>
    intro i j hi hj h1 h2 he
    have e01 : T.F 0 ≠ T.F 1 := by rw [h.f0, h.f1]; intro e; exact absurd (congrFun e fun _ => false) (by simp)
    -- one above the other: the two below it are one
    have lt : ∀ {i j : Int} {k : Int × Int × Int}, Ent n level T k i → T.kn j → n - dp n level T.nodes i ≤ (m + 1 : Nat) → dp n level T.nodes i < dp n level T.nodes j → T.F i = T.F j → False := by
      intro i j k he hj hm hlt e
      have c0 := h.cofs hl he false; have c1 := h.cofs hl he true
      rw [e, h.ind hl hj he.v0 he.vn (by rw [he.dp] at hlt; exact hlt)] at c0 c1
      have d1 := he.dl; have d2 := he.du
      rw [he.dp] at hm
      exact he.ne (ih he.kl he.ku (by omega) (by omega) (by rw [show T.F k.2.1 = T.F j from c0.symm, show T.F k.2.2 = T.F j from c1.symm]))
    rcases h.kn_case hl hi with rfl | rfl | ⟨k, h3, h4⟩ <;> rcases h.kn_case hl hj with rfl | rfl | ⟨k', h3', h4'⟩
    · rfl
    · exact absurd he e01
    · exact (lt h4' hi h2 (by rw [dp_end (i := 0) (by omega), h4'.dp]; exact (h.ord.lv k'.1 h4'.v0 h4'.vn).2.1) he.symm).elim
    · exact absurd he.symm e01
    · rfl
    · exact (lt h4' hi h2 (by rw [dp_end (i := 1) (by omega), h4'.dp]; exact (h.ord.lv k'.1 h4'.v0 h4'.vn).2.1) he.symm).elim
    · exact (lt h4 hj h1 (by rw [dp_end (i := 0) (by omega), h4.dp]; exact (h.ord.lv k.1 h4.v0 h4.vn).2.1) he).elim
    · exact (lt h4 hj h1 (by rw [dp_end (i := 1) (by omega), h4.dp]; exact (h.ord.lv k.1 h4.v0 h4.vn).2.1) he).elim
    · rcases Int.lt_trichotomy (dp n level T.nodes i) (dp n level T.nodes j) with hd | hd | hd
      · exact (lt h4 hj h1 hd he).elim
      · have hv : k.1 = k'.1 := by
          rw [h4.dp, h4'.dp] at hd
          have a := (h.ord.lv k.1 h4.v0 h4.vn).2.2; have b := (h.ord.lv k'.1 h4'.v0 h4'.vn).2.2
          rw [← a, hd, b]
        have d1 := h4.dl; have d2 := h4.du; have d3 := h4'.dl; have d4 := h4'.du
        rw [h4.dp] at h1
        rw [h4'.dp] at h2
        have c0 := h.cofs hl h4 false; have c1 := h.cofs hl h4 true
        rw [he, hv, h.cofs hl h4' false] at c0
        rw [he, hv, h.cofs hl h4' true] at c1
        have x0 := ih h4'.kl h4.kl (by omega) (by omega) (by simpa using c0)
        have x1 := ih h4'.ku h4.ku (by omega) (by omega) (by simpa using c1)
        have hk : k = k' := by
          obtain ⟨a, b, c⟩ := k; obtain ⟨a', b', c'⟩ := k'
          simp_all
        subst hk
        have e1 := mfind_of_mem h.keys h3
        rw [mfind_of_mem h.keys h3'] at e1
        exact (Option.some.inj e1).symm
      · exact (lt h4' hi h2 hd he.symm).elim
theorem Ok.inj (h : Ok n order level G T) (hl : T.lim = []) {i j : Int} (hi : T.kn i) (hj : T.kn j) (e : T.F i = T.F j) : i = j :=
  h.canon hl ((n - dp n level T.nodes i).toNat + (n - dp n level T.nodes j).toNat) hi hj (by omega) (by omega) e
/-- A node hangs on the variable that it asks. -/
theorem Ok.hangs (h : Ok n order level G T) (hl : T.lim = []) {k : Int × Int × Int} {i : Int} (he : Ent n level T k i) : cof (T.F i) k.1 false ≠ cof (T.F i) k.1 true := by
  rw [h.cofs hl he false, h.cofs hl he true]
  intro e
  exact he.ne (h.inj hl he.kl he.ku (by simpa using e))
theorem Ok.sup (h : Ok n order level G T) {i : Int} (hi : T.kn i) : Sup n (T.F i) := by
  rcases hi with rfl | rfl | hi | hi
  · rw [h.f0]; intro _ _ _; rfl
  · rw [h.f1]; intro _ _ _; rfl
  · exact (h.cl i (.inl hi)).sup h.gs
  · exact (h.cl i (.inr hi)).sup h.gs
theorem Ok.clk (h : Ok n order level G T) {i : Int} (hi : T.kn i) : Cl G (T.F i) := by
  rcases hi with rfl | rfl | hi | hi
  · rw [h.f0]; exact h.bs.1 false
  · rw [h.f1]; exact h.bs.1 true
  · exact h.cl i (.inl hi)
  · exact h.cl i (.inr hi)
theorem Ok.more (h : Ok n order level G T) {K : List Fn} (hK : ∀ g ∈ K, Sup n g) (hl : (G ++ K).length ≤ 290000000) : Ok n order level (G ++ K) T := by
  have hs : ∀ g ∈ G, g ∈ G ++ K := fun g hg => List.mem_append_left _ hg
  refine ⟨h.ord, h.two, h.f0, h.f1, h.keys, h.ent, h.limr, h.limn, h.mem, h.frn, h.fr, h.full, fun i hi => (h.cl i hi).mono hs, fun g hg => ?_, hl, ⟨fun b => (h.bs.1 b).mono hs, fun v h0 h1 => (h.bs.2 v h0 h1).mono hs⟩, h.nl⟩
  rcases List.mem_append.1 hg with hg | hg
  · exact h.gs g hg
  · exact hK g hg
theorem Ok.cap (h : Ok n order level G T) (hl : T.lim = []) : T.ms.length + T.lim.length ≤ CAP := by
  rw [hl, List.length_nil, Nat.add_zero]
  have hv : (T.ms.map (fun p => T.F p.2)).Nodup := by
    have hk := h.keys
    have hall : ∀ p ∈ T.ms, Ent n level T p.1 p.2 := fun p hp => h.ent p.1 p.2 hp
    have hkn : ∀ p ∈ T.ms, T.kn p.2 := fun p hp => .inr (.inr (.inl ⟨p.1, hp⟩))
    have key : ∀ l : Mp, (l.map (·.1)).Nodup → (∀ p ∈ l, p ∈ T.ms) → (l.map fun p => T.F p.2).Nodup := by
      intro l
      induction l with
      | nil => intro _ _; simp
      | cons p l ih =>
        intro h1 h2
        rw [List.map_cons, List.nodup_cons] at h1 ⊢
        refine ⟨fun hm => ?_, ih h1.2 fun q hq => h2 q (List.mem_cons_of_mem _ hq)⟩
        obtain ⟨q, hq, hqe⟩ := List.mem_map.1 hm
        have e := h.inj hl (hkn q (h2 q (List.mem_cons_of_mem _ hq))) (hkn p (h2 p (by simp))) hqe
        have a1 := (hall q (h2 q (List.mem_cons_of_mem _ hq))).at_
        have a2 := (hall p (h2 p (by simp))).at_
        rw [e, a2] at a1
        exact h1.1 (List.mem_map.2 ⟨q, hq, a1.symm⟩)
    exact key T.ms hk fun p hp => hp
  have := Cl.count h.ord.n0 h.gs hv (fun f hf => by obtain ⟨p, hp, rfl⟩ := List.mem_map.1 hf; exact h.cl p.2 (.inl ⟨p.1, hp⟩))
  rw [List.length_map] at this
  have h3 : 3 ^ n.toNat ≤ 3 ^ 9 := Nat.pow_le_pow_right (by omega) (by have := h.ord.n9; omega)
  have h4 := Nat.mul_le_mul h.gl h3
  unfold CAP; omega
end Go.Vc
