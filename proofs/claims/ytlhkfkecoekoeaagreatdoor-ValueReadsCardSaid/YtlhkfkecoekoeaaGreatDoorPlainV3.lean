/- How values are shown, in plain words. No program in sight. -/
import Derived.Test.YtlhkfkecoekoeaaGreatDoorPlainV2
set_option linter.unusedVariables false
set_option linter.unusedSimpArgs false
namespace Go.Vc
def digs : Nat → Nat → Str
  | 0, _ => []
  | f + 1, n => if n < 10 then [UInt8.ofNat (48 + n)] else digs f (n / 10) ++ [UInt8.ofNat (48 + n % 10)]
def showInt (n : Int) : Str := if n < 0 then 45 :: digs 20 n.natAbs else digs 20 n.natAbs
def restS : List Str → Str
  | [] => []
  | a :: l => 44 :: 32 :: (a ++ restS l)
def joinS : List Str → Str
  | [] => []
  | a :: l => a ++ restS l
def pairS (k v : List Str) : List Str := List.zipWith (fun a b => a ++ 58 :: 32 :: b) k v
def seqK : Int → List Val → Bool
  | _, [] => true
  | i, .num n :: l => decide (n = i) && seqK (i + 1) l
  | _, _ :: _ => false
mutual
def showV : Val → Str
  | .nil => [110, 105, 108]
  | .truth b => if b then [116, 114, 117, 101] else [102, 97, 108, 115, 101]
  | .num n => showInt n
  | .text s => 34 :: (s ++ [34])
  | .atom s => s
  | .set l _ => 123 :: (joinS (showLs l) ++ [125])
  | .fn k v _ => if seqK 1 k then 60 :: 60 :: (joinS (showLs v) ++ [62, 62]) else 91 :: (joinS (pairS (showLs k) (showLs v)) ++ [93])
def showLs : List Val → List Str
  | [] => []
  | a :: l => showV a :: showLs l
end
theorem showLs_map : ∀ l, showLs l = l.map showV
  | [] => rfl
  | a :: l => by simp [showLs, showLs_map l]
theorem showLs_len (l : List Val) : (showLs l).length = l.length := by simp [showLs_map]
theorem restS_app : ∀ a b, restS (a ++ b) = restS a ++ restS b
  | [], b => by simp [restS]
  | x :: a, b => by simp [restS, restS_app a b]
theorem joinS_snoc (l : List Str) (a : Str) : joinS (l ++ [a]) = if l = [] then a else joinS l ++ 44 :: 32 :: a := by
  cases l with
  | nil => simp [joinS, restS]
  | cons x l => simp [joinS, restS_app, restS]
theorem joinS_take_le (l : List Str) (k : Nat) : (joinS (l.take k)).length ≤ (joinS l).length := by
  cases l with
  | nil => simp [joinS]
  | cons x l =>
    cases k with
    | zero => simp [joinS]
    | succ k =>
      have : restS l = restS (l.take k) ++ restS (l.drop k) := by rw [← restS_app, List.take_append_drop]
      simp only [List.take_succ_cons, joinS, this, List.length_append]; omega
theorem room1 {k : Nat} (h : k ≤ 1000000) : Room k 1 := ⟨by omega, by unfold maxLen; omega⟩
theorem take_ix {α : Type} [Inhabited α] {l : List α} {i : Int} (h0 : 0 ≤ i) (h1 : i < l.length) : l.take (i + 1).toNat = l.take i.toNat ++ [ix l i] := by
  have h2 : i.toNat < l.length := by omega
  have : (i + 1).toNat = i.toNat + 1 := by omega
  rw [this, List.take_add_one]; simp [ix, h2]
theorem listed_gen {A : Str → Int → (Str → Prop) → Prop} {strs : List Str} {b0 : Str} {n : Int} {Q : Str → Prop} (hn : n = strs.length) (hlen : n ≤ 1000000)
    (hA : ∀ i b Q, 0 ≤ i → i < n → b.length + (ix strs i).length ≤ 900000 → Q (b ++ ix strs i) → A b i Q) (hb : b0.length + (joinS strs).length ≤ 900000) (hQ : Q (b0 ++ joinS strs)) :
    VLoop (σ := Str × Int) (b0, (0 : Int)) fun (b_48, x_52) xnext_87 =>
      (x_52 < n →
      VMeet (σ := Str) (fun b_97 =>
        A b_97 x_52 fun r_110 =>
        I64 (x_52 + (1 : Int)) ∧
        xnext_87 (r_110, (x_52 + (1 : Int)))) fun J_101 =>
        ((0 : Int) < x_52 →
        Room (b_48.length + ([44, 32] : Str).length) 1 ∧
        J_101 (b_48 ++ ([44, 32] : Str))) ∧
        (¬ ((0 : Int) < x_52) →
        J_101 b_48)) ∧
      (¬ (x_52 < n) →
      Q b_48) := by
  refine ⟨fun s => 0 ≤ s.2 ∧ s.2 ≤ n ∧ s.1 = b0 ++ joinS (strs.take s.2.toNat), fun s => (n - s.2).toNat, ⟨by simp, by simp; omega, by simp [joinS]⟩, ?_⟩
  rintro ⟨b, k⟩ ⟨k0, k1, e⟩
  simp only at k0 k1 e
  subst e
  refine ⟨fun hk => VMeet_go ?_, fun hk => ?_⟩
  · have hk2 : k < (strs.length : Int) := by omega
    have e1 := take_ix k0 hk2
    have e2 := joinS_snoc (strs.take k.toNat) (ix strs k)
    have e3 := joinS_take_le strs (k + 1).toNat
    have e4 := joinS_take_le strs k.toNat
    rw [e1, e2] at e3
    have hz : strs.take k.toNat = [] ↔ ¬ 0 < k := by
      rw [List.take_eq_nil_iff]; constructor
      · rintro (h | h)
        · omega
        · subst h; simp at hk2; omega
      · intro h; left; omega
    refine ⟨fun h0 => ⟨room1 (by simp; omega), ?_⟩, fun h0 => ?_⟩
    · have hne : ¬ strs.take k.toNat = [] := fun h => (hz.1 h) h0
      rw [if_neg hne] at e2 e3
      simp at e3
      refine hA k _ _ k0 hk (by simp; omega) ⟨by unfold I64; omega, ⟨by omega, by show k + 1 ≤ n; omega, ?_⟩, by show (_ : Int).toNat < (_ : Int).toNat; omega⟩
      show _ = b0 ++ joinS (strs.take (k + 1).toNat)
      rw [e1, e2]; simp
    · have hne := hz.2 h0
      rw [if_pos hne] at e2 e3
      refine hA k _ _ k0 hk (by rw [hne]; simp [joinS]; omega) ⟨by unfold I64; omega, ⟨by omega, by show k + 1 ≤ n; omega, ?_⟩, by show (_ : Int).toNat < (_ : Int).toNat; omega⟩
      show _ = b0 ++ joinS (strs.take (k + 1).toNat)
      rw [e1, e2, hne]; simp [joinS]
  · have : k = n := by omega
    subst this
    rw [hn, List.take_of_length_le (by simp)] at *; exact hQ
theorem seqK_drop {l : List Val} {i : Int} (h0 : 0 ≤ i) (h1 : i < l.length) {j : Int} : seqK j (l.drop i.toNat) = ((ix l i).isNum && decide ((ix l i).numD = j) && seqK (j + 1) (l.drop (i + 1).toNat)) := by
  rw [drop_ix h0 h1]
  cases ix l i <;> first | rfl | simp [seqK, Val.isNum, Val.numD]
theorem sequential_ok {k : List Val} {Q : Bool → Prop} (h : Q (seqK 1 k)) : V_sequential k Q := by
  intro hL
  refine ⟨fun i => 0 ≤ i ∧ i ≤ k.length ∧ seqK (i + 1) (k.drop i.toNat) = seqK 1 k, fun i => (k.length - i).toNat, ⟨by simp, by simp, by simp⟩, ?_⟩
  show ∀ i : Int, _ → _
  rintro i ⟨i0, i1, e⟩
  unfold Len at hL
  refine ⟨fun hi => ⟨⟨i0, hi⟩, VMeet_go ?_⟩, fun hi => ?_⟩
  · rw [seqK_drop i0 hi] at e
    refine ⟨fun hn => ⟨fun _ => ?_, fun hn => by simp at hn⟩, fun hn => ⟨by unfold I64; omega, fun hd => ?_, fun hd => ⟨by unfold I64; omega, ⟨by omega, by omega, ?_⟩, by show (_ : Int).toNat < (_ : Int).toNat; omega⟩⟩⟩
    · simp at hn; rw [← e] at h; simpa [hn] using h
    · simp at hd; rw [← e] at h; simpa [hd] using h
    · simp at hd hn; rw [← e]; simp [hd, hn]
  · rw [List.drop_of_length_le (by omega)] at e
    rw [← e] at h; simpa [seqK] using h
mutual
def Ev : Val → Prop
  | .set l _ => EvL l
  | .fn k v _ => k.length = v.length ∧ EvL k ∧ EvL v
  | .num n => I64 n
  | _ => True
def EvL : List Val → Prop
  | [] => True
  | a :: l => Ev a ∧ EvL l
end
theorem EvL_iff : ∀ {l : List Val}, EvL l ↔ ∀ a ∈ l, Ev a
  | [] => by simp [EvL]
  | a :: l => by simp [EvL, EvL_iff]
theorem ix_map {α β : Type} [Inhabited α] [Inhabited β] {l : List α} {f : α → β} {i : Int} (h0 : 0 ≤ i) (h1 : i < l.length) : ix (l.map f) i = f (ix l i) := by
  have h2 : i.toNat < l.length := by omega
  simp [ix, h2]
theorem ix_pairS {k v : List Str} {i : Int} (h0 : 0 ≤ i) (h1 : i < k.length) (h2 : i < v.length) : ix (pairS k v) i = ix k i ++ 58 :: 32 :: ix v i := by
  have h3 : i.toNat < k.length := by omega
  have h4 : i.toNat < v.length := by omega
  simp [ix, pairS, List.getElem?_zipWith, h3, h4]
theorem joinS_ge : ∀ {l : List Str} {a : Str}, a ∈ l → a.length ≤ (joinS l).length
  | x :: l, a, h => by
    simp only [joinS, List.length_append]
    rcases List.mem_cons.1 h with rfl | h
    · omega
    · have : ∀ {l : List Str}, a ∈ l → a.length ≤ (restS l).length := by
        intro l; induction l with
        | nil => simp
        | cons y l ih =>
          intro h; simp only [restS, List.length_cons, List.length_append]
          rcases List.mem_cons.1 h with rfl | h
          · omega
          · have := ih h; omega
      have := this h; omega
theorem restS_len : ∀ (l : List Str), 2 * l.length ≤ (restS l).length
  | [] => by simp
  | a :: l => by have := restS_len l; simp [restS]; omega
theorem joinS_len (l : List Str) : 2 * l.length ≤ (joinS l).length + 2 := by
  cases l with
  | nil => simp
  | cons a l => have := restS_len l; simp [joinS]; omega
theorem digs_len : ∀ f n, (digs f n).length ≤ f
  | 0, n => by simp [digs]
  | f + 1, n => by
    have := digs_len f (n / 10)
    simp only [digs]; split <;> simp <;> omega
theorem digs_dec : ∀ (f n : Nat), n < 10 ^ f → 0 < f → digs f n = Lib.decDigits n
  | 0, n, h, h0 => absurd h0 (by omega)
  | f + 1, n, h, _ => by
    unfold digs
    rw [Lib.decDigits]
    split
    · rfl
    · have h2 : n / 10 < 10 ^ f := by rw [Nat.pow_succ] at h; omega
      have hf : 0 < f := by
        cases f with
        | zero => simp at h2; omega
        | succ f => omega
      rw [digs_dec f _ h2 hf]
theorem wrap_neg {n : Int} (h0 : n < 0) (h1 : -9223372036854775808 ≤ n) : IntKind.u64.wrap (-(IntKind.u64.wrap n)) = -n := by
  simp only [IntKind.wrap, IntKind.bits, IntKind.signed]; simp; omega
theorem appInt_ok {b : Str} {n : Int} {Q : Str → Prop} (hn : I64 n) (hb : b.length ≤ 900000) (h : Q (b ++ showInt n)) : V_appInt b n 10 Q := by
  unfold I64 at hn
  unfold showInt at h
  have hd := digs_dec 20 n.natAbs (by omega) (by omega)
  refine VMeet_go ⟨fun hneg => ⟨room1 (by simp; omega), rfl, by simp; omega, ?_⟩, fun hneg => ⟨rfl, by simp; omega, ?_⟩⟩
  · rw [if_pos hneg, hd] at h
    rw [wrap_neg hneg (by omega), show (-n).toNat = n.natAbs by omega]
    simpa [u8] using h
  · rw [if_neg hneg, hd] at h
    rw [IntWalk.u64_in _ ⟨by omega, by omega⟩, show n.toNat = n.natAbs by omega]
    exact h
theorem put_ok : ∀ (m : Nat) {v : Val} {b : Str} {Q : Str → Prop}, v.sz < m → Ev v → b.length + (showV v).length ≤ 900000 → Q (b ++ showV v) → V_put m v b Q
  | 0, _, _, _, h, _, _, _ => absurd h (by omega)
  | m + 1, v, b, Q, hm, he, hb, h => by
    unfold V_put
    cases v with
    | nil => exact ⟨fun _ => ⟨room1 (by simp [showV] at hb ⊢; omega), by simpa [showV] using h⟩, fun hn => by simp [Val.isNil] at hn⟩
    | truth t =>
      refine ⟨fun hn => by simp [Val.isNil] at hn, fun _ => ?_⟩
      cases t
      · exact ⟨fun hn => by simp at hn, fun _ => ⟨room1 (by simp [showV] at hb ⊢; omega), by simpa [showV] using h⟩⟩
      · exact ⟨fun _ => ⟨room1 (by simp [showV] at hb ⊢; omega), by simpa [showV] using h⟩, fun hn => by simp at hn⟩
    | num n => exact ⟨fun hn => by simp [Val.isNil] at hn, fun _ => appInt_ok he (by omega) (by simpa [showV] using h)⟩
    | text s =>
      simp [showV] at hb
      exact ⟨fun hn => by simp [Val.isNil] at hn, fun _ => ⟨room1 (by simp; omega), room1 (by simp; omega), room1 (by simp; omega), by simpa [showV, u8] using h⟩⟩
    | atom s => simp [showV] at hb; exact ⟨fun hn => by simp [Val.isNil] at hn, fun _ => ⟨room1 (by omega), by simpa [showV] using h⟩⟩
    | set l w =>
      simp [showV] at hb
      refine ⟨fun hn => by simp [Val.isNil] at hn, fun _ => ⟨room1 (by simp; omega), rfl, fun hL => ?_⟩⟩
      have hl := joinS_len (showLs l); rw [showLs_len] at hl
      unfold V_listedS
      refine listed_gen (A := fun b i Q => V_showS1 (V_put m) b i (.set l w) Q) (n := (l.length : Int)) (b0 := b ++ [123]) (Q := fun r => Room (r.length + 1) 1 ∧ Q (r ++ [125])) (strs := showLs l) (by simp [showLs_len]) (by omega) (fun i b Q i0 i1 hi hQ => ?_) (by simp; omega) ⟨room1 (by simp; omega), ?_⟩
      · have i2 : i < (l.length : Int) := i1
        have me := ix_mem i0 i2
        refine ⟨rfl, ⟨i0, i1⟩, ?_⟩
        rw [showLs_map, ix_map i0 i2] at hi hQ
        exact put_ok m (by have := sz_mem_set (w := w) me; show (ix l i).sz < m; omega) (EvL_iff.1 he _ me) hi hQ
      · simpa [showV, u8] using h
    | fn k v w =>
      simp only [showV] at hb h
      obtain ⟨he1, he2, he3⟩ := he
      refine ⟨fun hn => by simp [Val.isNil] at hn, fun _ => ⟨rfl, sequential_ok ⟨fun hs => ?_, fun hs => ?_⟩⟩⟩
      · have hs : seqK 1 k = true := hs
        rw [if_pos hs] at hb h
        simp at hb
        refine ⟨room1 (by simp; omega), rfl, fun hL => ?_⟩
        have hl := joinS_len (showLs v); rw [showLs_len] at hl
        unfold V_listedF1
        refine listed_gen (A := fun b i Q => V_showF1 (V_put m) b i (.fn k v w) Q) (n := (v.length : Int)) (b0 := b ++ [60, 60]) (Q := fun r => Room (r.length + 2) 1 ∧ Q (r ++ [62, 62])) (strs := showLs v) (by simp [showLs_len]) (by omega) (fun i b Q i0 i1 hi hQ => ?_) (by simp; omega) ⟨room1 (by simp; omega), ?_⟩
        · have i2 : i < (v.length : Int) := i1
          have me := ix_mem i0 i2
          refine ⟨rfl, ⟨i0, i1⟩, ?_⟩
          rw [showLs_map, ix_map i0 i2] at hi hQ
          exact put_ok m (by have := sz_mem_v (k := k) (w := w) me; show (ix v i).sz < m; omega) (EvL_iff.1 he3 _ me) hi hQ
        · simpa using h
      · have hs : seqK 1 k = false := hs
        rw [if_neg (by simp [hs])] at hb h
        simp at hb
        refine ⟨room1 (by simp; omega), rfl, fun hL => ?_⟩
        have hl := joinS_len (pairS (showLs k) (showLs v))
        have hpl : (pairS (showLs k) (showLs v)).length = k.length := by simp [pairS, showLs_len, he1]
        unfold V_listedF2
        refine listed_gen (A := fun b i Q => V_showF2 (V_put m) b i (.fn k v w) Q) (n := (k.length : Int)) (b0 := b ++ [91]) (Q := fun r => Room (r.length + 1) 1 ∧ Q (r ++ [93])) (strs := pairS (showLs k) (showLs v)) (by simp [hpl]) (by omega) (fun i b Q i0 i1 hi hQ => ?_) (by simp; omega) ⟨room1 (by simp; omega), ?_⟩
        · have i2 : i < (k.length : Int) := i1
          have i3 : i < (v.length : Int) := by omega
          have mk := ix_mem i0 i2; have mv := ix_mem i0 i3
          refine ⟨rfl, ⟨i0, i3⟩, rfl, ⟨i0, i2⟩, ?_⟩
          rw [ix_pairS i0 (by simp [showLs_len]; omega) (by simp [showLs_len]; omega), showLs_map, showLs_map, ix_map i0 i2, ix_map i0 i3] at hi hQ
          simp at hi
          refine put_ok m (by have := sz_mem_k (v := v) (w := w) mk; show (ix k i).sz < m; omega) (EvL_iff.1 he2 _ mk) (by simp [Val.fnK]; omega) ⟨room1 (by simp [Val.fnK]; omega), ?_⟩
          refine put_ok m (by have := sz_mem_v (k := k) (w := w) mv; show (ix v i).sz < m; omega) (EvL_iff.1 he3 _ mv) (by simp [Val.fnK, Val.fnV]; omega) ?_
          simpa [Val.fnK, Val.fnV] using hQ
        · simpa [u8] using h
theorem Show_ok {v : Val} {Q : Str → Prop} (he : Ev v) (hl : (showV v).length ≤ 900000) (h : Q (showV v)) : V_Show v Q := ⟨v.sz + 1, put_ok _ (by omega) he (by simpa using hl) (by simpa using h)⟩
end Go.Vc
