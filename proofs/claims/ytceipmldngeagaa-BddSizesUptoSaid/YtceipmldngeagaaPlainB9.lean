/- The document's side in plain words: functions as lists of truths. No program in sight. -/
import Derived.Test.YtceipmldngeagaaPlainB8
set_option linter.unusedVariables false
set_option linter.unusedSimpArgs false
set_option linter.unusedSectionVars false
namespace Go.Vc
variable {n : Int} {order level : List Int}
def bits (k : Nat) : Env := fun v => decide (0 ≤ v) && k.testBit v.toNat
def tt (n : Int) (f : Fn) : List Bool := (List.range (2 ^ n.toNat)).map fun k => f (bits k)
theorem tt_length {f : Fn} : (tt n f).length = 2 ^ n.toNat := by simp [tt]
theorem tt_ix {f : Fn} {k : Int} (h0 : 0 ≤ k) (h1 : k < 2 ^ n.toNat) : ix (tt n f) k = f (bits k.toNat) := by
  have e : ((2 ^ n.toNat : Nat) : Int) = (2 : Int) ^ n.toNat := by simp
  have : k.toNat < 2 ^ n.toNat := by omega
  unfold ix tt
  rw [List.getD_eq_getElem?_getD, List.getElem?_map, List.getElem?_range this]; rfl
theorem pow_n (h0 : 0 ≤ n) (h9 : n ≤ 9) : 1 ≤ 2 ^ n.toNat ∧ 2 ^ n.toNat ≤ 512 :=
  ⟨Nat.one_le_two_pow, by have : 2 ^ n.toNat ≤ 2 ^ 9 := Nat.pow_le_pow_right (by omega) (by omega); simpa using this⟩
theorem tt_ext {l : List Bool} {f : Fn} (hl : l.length = 2 ^ n.toNat) (h : ∀ k : Int, 0 ≤ k → k < 2 ^ n.toNat → ix l k = f (bits k.toNat)) : l = tt n f := by
  apply List.ext_getElem?
  intro k
  by_cases hk : k < 2 ^ n.toNat
  · have e : ((2 ^ n.toNat : Nat) : Int) = (2 : Int) ^ n.toNat := by simp
    have h1 := h (k : Int) (by omega) (by omega)
    have h2 := ix_get (xs := l) (i := (k : Int)) (by omega) (by omega)
    rw [Int.toNat_natCast] at h1 h2
    rw [h2, h1]; unfold tt; rw [List.getElem?_map, List.getElem?_range hk]; rfl
  · rw [List.getElem?_eq_none (by omega), List.getElem?_eq_none (by rw [tt_length]; omega)]
def enc : Nat → Env → Nat
  | 0, _ => 0
  | m + 1, e => enc m e ||| (if e m then 2 ^ m else 0)
theorem enc_lt : ∀ (m : Nat) (e : Env), enc m e < 2 ^ m
  | 0, _ => by simp [enc]
  | m + 1, e => by
    unfold enc
    refine Nat.or_lt_two_pow (Nat.lt_of_lt_of_le (enc_lt m e) (Nat.pow_le_pow_right (by omega) (by omega))) ?_
    split
    · exact Nat.pow_lt_pow_right (by omega) (by omega)
    · exact Nat.two_pow_pos _
theorem enc_bit : ∀ (m : Nat) (e : Env) (j : Nat), (enc m e).testBit j = (decide (j < m) && e j)
  | 0, e, j => by simp [enc]
  | m + 1, e, j => by
    unfold enc
    rw [Nat.testBit_or, enc_bit m e j]
    by_cases h : j < m
    · have : j < m + 1 := by omega
      have hne : ¬ m = j := by omega
      cases e m <;> simp [h, this, Nat.testBit_two_pow, hne]
    · by_cases h2 : j = m
      · subst h2; cases e j <;> simp [Nat.testBit_two_pow]
      · have h3 : ¬ j < m + 1 := by omega
        have hne : ¬ m = j := by omega
        cases e m <;> simp [h, h3, Nat.testBit_two_pow, hne]
theorem Sup.bits {f : Fn} (h : Sup n f) (e : Env) : f e = f (bits (enc n.toNat e)) := h _ _ fun i h0 h1 => by
  unfold Go.Vc.bits
  rw [enc_bit]
  have : i.toNat < n.toNat := by omega
  have e2 : ((i.toNat : Nat) : Int) = i := by omega
  simp [h0, this, e2]
theorem tt_inj {f g : Fn} (hf : Sup n f) (hg : Sup n g) (h : tt n f = tt n g) : f = g := by
  funext e
  rw [hf.bits, hg.bits]
  have hl := enc_lt n.toNat e
  have := congrArg (fun l => l[enc n.toNat e]?) h
  simp only [tt, List.getElem?_map, List.getElem?_range hl, Option.map_some] at this
  exact Option.some.inj this
theorem Sup.const {b : Bool} : Sup n fun _ => b := fun _ _ _ => rfl
theorem Sup.cof {f : Fn} (h : Sup n f) (v : Int) (b : Bool) : Sup n (cof f v b) := fun e e' he => h _ _ fun i h0 h1 => by
  unfold upd; split
  · rfl
  · exact he i h0 h1
theorem Sup.ite {f g k : Fn} (hf : Sup n f) (hg : Sup n g) (hk : Sup n k) : Sup n (iteF f g k) := fun e e' he => by unfold iteF; rw [hf e e' he, hg e e' he, hk e e' he]
theorem Sup.var {v : Int} (h0 : 0 ≤ v) (h1 : v < n) : Sup n fun e => e v := fun e e' he => he v h0 h1
theorem Sup.varF {v : Int} : Sup n (varF n v) := fun e e' he => by
  unfold Go.Vc.varF
  by_cases h : 0 ≤ v ∧ v < n
  · rw [he v h.1 h.2]
  · simp [h]
theorem Sup.rst {f : Fn} (h : Sup n f) (p : Int → Option Bool) : Sup n (rst p f) := fun e e' he => h _ _ fun i h0 h1 => by simp only [he i h0 h1]
theorem Sup.out {f : Fn} (h : Sup n f) {v : Int} (hv : ¬ (0 ≤ v ∧ v < n)) (b : Bool) : Go.Vc.cof f v b = f := by
  funext e; exact h _ _ fun i h0 h1 => upd_ne fun e' => hv (e' ▸ ⟨h0, h1⟩)
/-! ### Lists that are built truth by truth -/
structure Bld (m : Int) (val : Int → Bool) (l : List Bool) (k : Int) : Prop where
  len : (l.length : Int) = m
  k0 : 0 ≤ k
  km : k ≤ m
  at_ : ∀ j, 0 ≤ j → j < k → ix l j = val j
theorem Bld.init {m : Int} {val : Int → Bool} {b : Bool} (h : 0 ≤ m) : Bld m val (List.replicate m.toNat b) 0 := ⟨by simp; omega, Int.le_refl 0, h, fun j a b => by omega⟩
theorem Bld.step {m : Int} {val : Int → Bool} {l : List Bool} {k : Int} (h : Bld m val l k) (hk : k < m) {v : Bool} (hv : v = val k) : Bld m val (l.set k.toNat v) (k + 1) := by
  have := h.len; have := h.k0
  refine ⟨by simpa using h.len, by omega, by omega, fun j a b => ?_⟩
  rw [ix_set h.k0 (by omega) a]
  by_cases e : j = k
  · rw [if_pos e, e, hv]
  · rw [if_neg e]; exact h.at_ j a (by omega)
theorem Bld.fin {f : Fn} {l : List Bool} {k : Int} (h : Bld ((2 ^ n.toNat : Nat) : Int) (fun j => f (bits j.toNat)) l k) (hk : ¬ k < l.length) : l = tt n f := by
  have a := h.len; have b := h.km
  refine tt_ext (by omega) fun j h0 h1 => h.at_ j h0 ?_
  have e : ((2 ^ n.toNat : Nat) : Int) = (2 : Int) ^ n.toNat := by simp
  omega
theorem shl1 (h0 : 0 ≤ n) (h9 : n ≤ 9) : ((0 : Int) ≤ n ∧ n < 64 ∧ I64 ((1 : Int) * 2 ^ n.toNat)) ∧ Made ((1 : Int) * 2 ^ n.toNat) 1 ∧ (1 : Int) * 2 ^ n.toNat = ((2 ^ n.toNat : Nat) : Int) := by
  have := pow_n h0 h9
  have e : ((2 ^ n.toNat : Nat) : Int) = (1 : Int) * 2 ^ n.toNat := by simp
  exact ⟨⟨h0, by omega, by unfold I64; omega⟩, ⟨by omega, by omega, by omega⟩, e.symm⟩
theorem bld_loop {m : Int} {val : Int → Bool} {b : Bool} {body : List Bool × Int → (List Bool × Int → Prop) → Prop} (hm : 0 ≤ m) (h9 : m ≤ 512) (h : ∀ l k (next : List Bool × Int → Prop), Bld m val l k → (k < m → ∀ v, v = val k → next (l.set k.toNat v, k + 1)) → body (l, k) next) :
    VLoop (σ := List Bool × Int) (List.replicate m.toNat b, 0) body :=
  ⟨fun s => Bld m val s.1 s.2, fun s => (m - s.2).toNat, Bld.init hm, fun ⟨l, k⟩ hb => h l k _ hb fun hk v hv => ⟨hb.step hk hv, by have := hb.k0; dsimp only; omega⟩⟩
variable (h0 : 0 ≤ n) (h9 : n ≤ 9)
include h0 h9
theorem rConst_ok {v : Bool} {Q : List Bool → Prop} (k : Q (tt n fun _ => v)) : V_rConst n v Q := by
  obtain ⟨a, b, e⟩ := shl1 h0 h9
  have hp := pow_n h0 h9
  refine ⟨a, b, ?_⟩
  rw [e]
  refine bld_loop (val := fun _ => v) (by omega) (by have := pow_n h0 h9; omega) fun l k' next hb hn _ => ⟨fun hlt => ⟨⟨hb.k0, hlt⟩, ?_, hn (by rw [← hb.len]; exact hlt) v rfl⟩, fun hge => ?_⟩
  · have := hb.len; have := hb.k0; have := pow_n h0 h9; unfold I64; omega
  · rw [Bld.fin (f := fun _ => v) hb hge]; exact k
omit h0 h9 in
theorem fdiv_nat {k i : Int} (hk : 0 ≤ k) : k.fdiv (2 ^ i.toNat) = ((k.toNat / 2 ^ i.toNat : Nat) : Int) := by
  obtain ⟨m, rfl⟩ := Int.eq_ofNat_of_zero_le hk
  rw [Int.fdiv_eq_ediv_of_nonneg _ (by exact Int.pow_nonneg (by omega))]
  simp
theorem bit_test {k i : Int} (hk : 0 ≤ k) : decide ((nat2 (· &&& ·) (k.fdiv (2 ^ i.toNat)) 1) = 1) = k.toNat.testBit i.toNat := by
  rw [fdiv_nat hk]
  unfold nat2
  rw [Nat.testBit_eq_decide_div_mod_eq]
  have h1 : (1 : Int).toNat = 1 := rfl
  rw [h1, Int.toNat_natCast]
  show decide (((k.toNat / 2 ^ i.toNat &&& 1 : Nat) : Int) = 1) = _
  rw [Nat.and_one_is_mod, decide_eq_decide]
  omega
theorem rVar_ok {i : Int} {Q : List Bool → Prop} (k : Q (tt n (varF n i))) : V_rVar n i Q := by
  obtain ⟨a, b, e⟩ := shl1 h0 h9
  have hp := pow_n h0 h9
  refine ⟨a, b, ?_⟩
  rw [e]
  refine bld_loop (val := fun j => varF n i (bits j.toNat)) (by omega) (by omega) fun l k' next hb hn _ => ⟨fun hlt => ?_, fun hge => ?_⟩
  · have hl := hb.len; have hk0 := hb.k0
    refine ⟨fun l' => ∃ v, v = varF n i (bits k'.toNat) ∧ l' = l.set k'.toNat v, fun l' ⟨v, hv, e⟩ => ⟨by unfold I64; omega, by rw [e]; exact hn (by omega) v hv⟩, fun hi0 => ⟨fun hin => ⟨⟨hi0, by omega⟩, ⟨?_, by omega⟩, ⟨hk0, hlt⟩, _, ?_, rfl⟩, fun hin => ⟨⟨hk0, hlt⟩, _, ?_, rfl⟩⟩, fun hi0 => ⟨⟨hk0, hlt⟩, _, ?_, rfl⟩⟩
    · rw [fdiv_nat hk0]; exact Int.natCast_nonneg _
    · rw [bit_test h0 h9 hk0]; simp [varF, bits, hi0, hin]
    · have : ¬ i < n := hin
      simp [varF, this]
    · simp [varF, hi0]
  · rw [Bld.fin (f := varF n i) hb hge]; exact k
omit h0 h9 in
theorem map_len {f : Fn} (hp : 2 ^ n.toNat ≤ 512) : Made ((tt n f).length : Int) 1 := by rw [tt_length]; exact ⟨Int.natCast_nonneg _, by omega, by omega⟩
theorem rIte_ok {f g i : Fn} {Q : List Bool → Prop} (k : Q (tt n (iteF f g i))) : V_rIte (tt n f) (tt n g) (tt n i) Q := by
  have hp := pow_n h0 h9
  have e1 : ((2 ^ n.toNat : Nat) : Int) = (2 : Int) ^ n.toNat := by simp
  refine fun _ => ⟨map_len hp.2, ?_⟩
  rw [tt_length]
  refine bld_loop (val := fun j => iteF f g i (bits j.toNat)) (by omega) (by omega) fun l k' next hb hn _ => ⟨fun hlt => ?_, fun hge => ?_⟩
  · have hl := hb.len; have hk0 := hb.k0
    have hin : ∀ f : Fn, In k' (tt n f) := fun f => ⟨hk0, by rw [tt_length]; omega⟩
    rw [tt_ix hk0 (by omega), tt_ix hk0 (by omega), tt_ix hk0 (by omega)]
    refine ⟨fun l' => ∃ v, v = iteF f g i (bits k'.toNat) ∧ l' = l.set k'.toNat v, fun l' ⟨v, hv, e⟩ => ⟨by unfold I64; omega, by rw [e]; exact hn (by omega) v hv⟩, hin f, fun hf => ⟨hin g, fun hg => ⟨⟨hk0, hlt⟩, _, ?_, rfl⟩, fun hg => ⟨hin f, fun hc => ?_, fun hc => ⟨⟨hk0, hlt⟩, _, ?_, rfl⟩⟩⟩, fun hf => ⟨hin f, fun hc => ⟨hin i, ⟨hk0, hlt⟩, _, ?_, rfl⟩, fun hc => ?_⟩⟩
    · simp [iteF, hf, hg]
    · rw [hf] at hc; cases hc
    · simp [iteF, hf, hg]
    · simp [iteF, hf]
    · rw [hf] at hc; cases hc
  · rw [Bld.fin (f := iteF f g i) hb hge]; exact k
omit h0 h9 in
theorem bits_or {k : Nat} {i : Int} (hi : 0 ≤ i) : bits (k ||| 2 ^ i.toNat) = upd (bits k) i true := by
  funext v; unfold bits upd
  by_cases hv : 0 ≤ v
  · rw [Nat.testBit_or, Nat.testBit_two_pow]
    by_cases e : v = i
    · subst e; simp [hi]
    · have : ¬ i.toNat = v.toNat := by omega
      simp [e, this, hv]
  · have : ¬ v = i := by omega
    simp [hv, this]
omit h0 h9 in
theorem sub_bit {x i j : Nat} (h : x.testBit i = true) : (x - 2 ^ i).testBit j = if j = i then false else x.testBit j := by
  rw [Nat.testBit_eq_decide_div_mod_eq] at h
  have hq := of_decide_eq_true h
  have hx : x = 2 ^ i * (x / 2 ^ i) + x % 2 ^ i := (Nat.div_add_mod x (2 ^ i)).symm
  have hb : x % 2 ^ i < 2 ^ i := Nat.mod_lt _ (Nat.two_pow_pos i)
  generalize x / 2 ^ i = q at *
  generalize x % 2 ^ i = b at *
  have hq1 : 1 ≤ q := by omega
  have hx2 : x - 2 ^ i = 2 ^ i * (q - 1) + b := by
    obtain ⟨q', rfl⟩ : ∃ q', q = q' + 1 := ⟨q - 1, by omega⟩
    rw [hx, Nat.mul_add, Nat.mul_one, Nat.add_sub_cancel]; omega
  rw [hx2, Nat.testBit_two_pow_mul_add _ hb, hx, Nat.testBit_two_pow_mul_add _ hb]
  by_cases h1 : j < i
  · have : ¬ j = i := by omega
    simp [h1, this]
  · by_cases h2 : j = i
    · subst h2
      simp
      omega
    · simp only [h1, if_false, h2]
      obtain ⟨m, hm⟩ : ∃ m, j - i = m + 1 := ⟨j - i - 1, by omega⟩
      rw [hm, Nat.testBit_succ, Nat.testBit_succ]
      congr 1; omega
omit h0 h9 in
theorem bits_off {k : Nat} {i : Int} (hi : 0 ≤ i) : bits ((k ||| 2 ^ i.toNat) - 2 ^ i.toNat) = upd (bits k) i false := by
  have ht : (k ||| 2 ^ i.toNat).testBit i.toNat = true := by rw [Nat.testBit_or, Nat.testBit_two_pow]; simp
  funext v; unfold bits upd
  by_cases hv : 0 ≤ v
  · rw [sub_bit ht, Nat.testBit_or, Nat.testBit_two_pow]
    by_cases e : v = i
    · subst e; simp
    · have h1 : ¬ v.toNat = i.toNat := by omega
      have h2 : ¬ i.toNat = v.toNat := by omega
      simp [e, h1, h2, hv]
  · have : ¬ v = i := by omega
    simp [hv, this]
omit h0 h9 in
theorem or_ge {k p : Nat} : p ≤ k ||| p := Nat.right_le_or
theorem rWith_ok {f : Fn} {i : Int} {v : Bool} (hi : 0 ≤ i ∧ i < n) {Q : List Bool → Prop} (k : Q (tt n (cof f i v))) : V_rWith (tt n f) i v Q := by
  have hp := pow_n h0 h9
  have e1 : ((2 ^ n.toNat : Nat) : Int) = (2 : Int) ^ n.toNat := by simp
  have hpi : 2 ^ i.toNat < 2 ^ n.toNat := Nat.pow_lt_pow_right (by omega) (by omega)
  have hpi0 : 1 ≤ 2 ^ i.toNat := Nat.one_le_two_pow
  have e2 : (1 : Int) * 2 ^ i.toNat = ((2 ^ i.toNat : Nat) : Int) := by simp
  refine fun _ => ⟨map_len hp.2, ?_⟩
  rw [tt_length]
  refine bld_loop (val := fun j => cof f i v (bits j.toNat)) (by omega) (by omega) fun l k' next hb hn _ => ⟨fun hlt => ?_, fun hge => ?_⟩
  · have hl := hb.len; have hk0 := hb.k0
    have hor : k'.toNat ||| 2 ^ i.toNat < 2 ^ n.toNat := Nat.or_lt_two_pow (by omega) hpi
    have hge : 2 ^ i.toNat ≤ k'.toNat ||| 2 ^ i.toNat := or_ge
    have hn2 : nat2 (· ||| ·) k' ((1 : Int) * 2 ^ i.toNat) = ((k'.toNat ||| 2 ^ i.toNat : Nat) : Int) := by unfold nat2; rw [e2, Int.toNat_natCast]
    rw [hn2, e2]
    refine ⟨⟨hi.1, by omega, by unfold I64; omega⟩, ⟨hk0, by omega⟩, fun x => x = (if v then ((k'.toNat ||| 2 ^ i.toNat : Nat) : Int) else ((k'.toNat ||| 2 ^ i.toNat : Nat) : Int) - ((2 ^ i.toNat : Nat) : Int)), fun x hx => ?_, fun hv => ⟨⟨hi.1, by omega, by unfold I64; omega⟩, by unfold I64; omega, by rw [if_neg (by simpa using hv)]⟩, fun hv => by rw [if_pos (by simpa using hv)]⟩
    have hx2 : 0 ≤ x ∧ x < 2 ^ n.toNat ∧ bits x.toNat = upd (bits k'.toNat) i v := by
      rw [hx]
      cases v
      · simp only [Bool.false_eq_true, if_false]
        have : (((k'.toNat ||| 2 ^ i.toNat : Nat) : Int) - ((2 ^ i.toNat : Nat) : Int)).toNat = (k'.toNat ||| 2 ^ i.toNat) - 2 ^ i.toNat := by omega
        rw [this]
        exact ⟨by omega, by omega, bits_off hi.1⟩
      · simp only [if_true]
        rw [Int.toNat_natCast]
        exact ⟨by omega, by omega, bits_or hi.1⟩
    refine ⟨⟨hx2.1, by rw [tt_length]; omega⟩, ⟨hk0, hlt⟩, by unfold I64; omega, hn (by omega) _ ?_⟩
    rw [tt_ix hx2.1 hx2.2.1, hx2.2.2]; rfl
  · rw [Bld.fin (f := cof f i v) hb hge]; exact k
def allV (v : Int) (f : Fn) : Fn := fun e => cof f v false e && cof f v true e
omit h0 h9 in
theorem exV_out {f : Fn} (hf : Sup n f) {i : Int} (hi : ¬ (0 ≤ i ∧ i < n)) : exV i f = f ∧ allV i f = f := by
  unfold exV allV; rw [hf.out hi, hf.out hi]; simp
theorem rOver_ok {f : Fn} (hf : Sup n f) {i : Int} {some : Bool} {Q : List Bool → Prop} (k : Q (tt n (if some then exV i f else allV i f))) : V_rOver n (tt n f) i some Q := by
  have hp := pow_n h0 h9
  have e1 : ((2 ^ n.toNat : Nat) : Int) = (2 : Int) ^ n.toNat := by simp
  refine ⟨fun hout => ?_, fun hi => ?_⟩
  · have := exV_out hf (i := i) (by omega)
    rw [this.1, this.2] at k
    cases some <;> exact k
  · have hi : 0 ≤ i ∧ i < n := by omega
    refine rWith_ok h0 h9 hi (rWith_ok h0 h9 hi fun _ => ⟨map_len hp.2, ?_⟩)
    rw [tt_length]
    generalize hF : (if some then exV i f else allV i f) = F at k
    refine bld_loop (val := fun j => F (bits j.toNat)) (by omega) (by omega) fun l k' next hb hn _ => ⟨fun hlt => ?_, fun hge => ?_⟩
    · have hl := hb.len; have hk0 := hb.k0
      have hin : ∀ f : Fn, In k' (tt n f) := fun f => ⟨hk0, by rw [tt_length]; omega⟩
      rw [tt_ix hk0 (by omega), tt_ix hk0 (by omega)]
      have hFb : F (bits k'.toNat) = if some then cof f i false (bits k'.toNat) || cof f i true (bits k'.toNat) else cof f i false (bits k'.toNat) && cof f i true (bits k'.toNat) := by rw [← hF]; cases some <;> rfl
      generalize cof f i false (bits k'.toNat) = a at *
      generalize cof f i true (bits k'.toNat) = b at *
      refine ⟨fun l' => ∃ v, v = F (bits k'.toNat) ∧ l' = l.set k'.toNat v, fun l' ⟨v, hv, e⟩ => ⟨by unfold I64; omega, by rw [e]; exact hn (by omega) v hv⟩, hin _, fun ha => ⟨hin _, fun hb' => ⟨⟨hk0, hlt⟩, _, ?_, rfl⟩, fun hb' => ⟨fun hs => ⟨hin _, fun _ => ⟨⟨hk0, hlt⟩, _, ?_, rfl⟩, fun hc => ?_⟩, fun hs => ⟨⟨hk0, hlt⟩, _, ?_, rfl⟩⟩⟩, fun ha => ⟨fun hs => ⟨hin _, fun hc => ?_, fun _ => ⟨hin _, ⟨hk0, hlt⟩, _, ?_, rfl⟩⟩, fun hs => ⟨⟨hk0, hlt⟩, _, ?_, rfl⟩⟩⟩
      · rw [hFb, ha, hb']; cases some <;> rfl
      · rw [hFb, ha, hs]; rfl
      · rw [ha] at hc; cases hc
      · rw [hFb, ha, hb', hs]; rfl
      · rw [ha] at hc; cases hc
      · rw [hFb, ha, hs]; simp
      · rw [hFb, ha, hs]; rfl
    · rw [Bld.fin (f := F) hb hge]; exact k
theorem rLet_ok {f g : Fn} (hf : Sup n f) {i : Int} {Q : List Bool → Prop} (k : Q (tt n (letF i g f))) : V_rLet n (tt n f) i (tt n g) Q := by
  refine ⟨fun hout => ?_, fun hi => ?_⟩
  · have : letF i g f = f := by unfold letF; rw [hf.out (by omega), hf.out (by omega), iteF_same]
    rw [this] at k; exact k
  · have hi : 0 ≤ i ∧ i < n := by omega
    exact rWith_ok h0 h9 hi (rWith_ok h0 h9 hi (rIte_ok h0 h9 k))
omit h0 h9 in
theorem rSame_ok {l m : List Bool} {Q : Bool → Prop} (k : Q (decide (l = m))) : V_rSame l m Q := by
  refine fun hl hm => ⟨fun hne => ?_, fun he => ?_⟩
  · have : ¬ l = m := fun e => hne (by rw [e])
    simpa [this] using k
  · have he : l.length = m.length := by omega
    refine ⟨fun x => 0 ≤ x ∧ x ≤ l.length ∧ ∀ j : Int, 0 ≤ j → j < x → ix l j = ix m j, fun x => (l.length - x).toNat, ⟨Int.le_refl 0, by omega, fun j a b => by omega⟩, fun x ⟨x0, x1, x2⟩ _ => ⟨fun hlt => ⟨⟨x0, hlt⟩, ⟨x0, by omega⟩, fun hd => ?_, fun hd => ⟨by unfold I64; unfold Len at hl; omega, ⟨by omega, by omega, fun j a b => ?_⟩, by dsimp only; omega⟩⟩, fun hge => ?_⟩⟩
    · have : ¬ l = m := fun e => by subst e; simp at hd
      simpa [this] using k
    · by_cases e : j = x
      · subst e; simpa using hd
      · exact x2 j a (by omega)
    · have : l = m := by
        apply List.ext_getElem?
        intro j
        by_cases hj : j < l.length
        · have a := ix_get (xs := l) (i := (j : Int)) (by omega) (by omega)
          have b := ix_get (xs := m) (i := (j : Int)) (by omega) (by omega)
          rw [Int.toNat_natCast] at a b
          rw [a, b, x2 j (by omega) (by omega)]
        · rw [List.getElem?_eq_none (by omega), List.getElem?_eq_none (by omega)]
      simpa [this] using k
omit h0 h9 in
theorem bits_xor {k : Nat} {i : Int} (hi : 0 ≤ i) : bits (k ^^^ 2 ^ i.toNat) = upd (bits k) i (!(bits k i)) := by
  funext v; unfold bits upd
  by_cases hv : 0 ≤ v
  · rw [Nat.testBit_xor, Nat.testBit_two_pow]
    by_cases e : v = i
    · subst e; simp [hv]
    · have : ¬ i.toNat = v.toNat := by omega
      simp [e, this, hv]
  · have : ¬ v = i := by omega
    simp [hv, this]
open Classical in
theorem rHangs_ok {f : Fn} (hf : Sup n f) {i : Int} (hi : 0 ≤ i ∧ i < n) {Q : Bool → Prop} (k : Q (decide (cof f i false ≠ cof f i true))) : V_rHangs (tt n f) i Q := by
  have hp := pow_n h0 h9
  have e1 : ((2 ^ n.toNat : Nat) : Int) = (2 : Int) ^ n.toNat := by simp
  have hpi : 2 ^ i.toNat < 2 ^ n.toNat := Nat.pow_lt_pow_right (by omega) (by omega)
  have hpi0 : 1 ≤ 2 ^ i.toNat := Nat.one_le_two_pow
  have e2 : (1 : Int) * 2 ^ i.toNat = ((2 ^ i.toNat : Nat) : Int) := by simp
  have same : ∀ x : Nat, f (bits x) = f (bits (x ^^^ 2 ^ i.toNat)) ↔ cof f i false (bits x) = cof f i true (bits x) := fun x => by
    rw [bits_xor hi.1]
    have hx := upd_self (bits x) i
    unfold cof
    cases hb : bits x i <;> rw [hb] at hx
    · conv => lhs; lhs; rw [← hx]
      rfl
    · conv => lhs; lhs; rw [← hx]
      exact ⟨fun h => h.symm, fun h => h.symm⟩
  refine ⟨fun x => 0 ≤ x ∧ x ≤ 2 ^ n.toNat ∧ ∀ j : Int, 0 ≤ j → j < x → cof f i false (bits j.toNat) = cof f i true (bits j.toNat), fun x => (2 ^ n.toNat - x).toNat, ⟨Int.le_refl 0, by omega, fun j a b => by omega⟩, fun x ⟨x0, x1, x2⟩ _ => ?_⟩
  rw [tt_length]
  have hn2 : nat2 (· ^^^ ·) x ((1 : Int) * 2 ^ i.toNat) = ((x.toNat ^^^ 2 ^ i.toNat : Nat) : Int) := by unfold nat2; rw [e2, Int.toNat_natCast]
  rw [hn2, e2]
  refine ⟨fun hlt => ?_, fun hge => ?_⟩
  · have hxor : x.toNat ^^^ 2 ^ i.toNat < 2 ^ n.toNat := Nat.xor_lt_two_pow (by omega) hpi
    rw [tt_ix x0 (by omega), tt_ix (by omega) (by omega), Int.toNat_natCast]
    refine ⟨⟨x0, by rw [tt_length]; omega⟩, ⟨hi.1, by omega, by unfold I64; omega⟩, ⟨x0, by omega⟩, ⟨by omega, by rw [tt_length]; omega⟩, fun hd => ?_, fun hd => ⟨by unfold I64; omega, ⟨by omega, by omega, fun j a b => ?_⟩, by dsimp only; omega⟩⟩
    · have : cof f i false ≠ cof f i true := fun e => by
        have := (same x.toNat).2 (congrFun e _)
        rw [this] at hd; simp at hd
      simpa [this] using k
    · by_cases e : j = x
      · subst e; exact (same j.toNat).1 (by simpa using hd)
      · exact x2 j a (by omega)
  · have : cof f i false = cof f i true := by
      refine tt_inj (hf.cof i false) (hf.cof i true) ?_
      unfold tt
      refine List.map_congr_left fun j hj => ?_
      have := List.mem_range.1 hj
      have := x2 (j : Int) (by omega) (by omega)
      simpa using this
    simpa [this] using k
end Go.Vc
