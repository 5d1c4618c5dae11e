/- How the document shows values; ValueReads in plain words. No program in sight. -/
import Derived.Test.YtlhkfkecoekoeaaGreatDoorPlainR5
set_option linter.unusedVariables false
set_option linter.unusedSimpArgs false
namespace Go.Vc
theorem ix_toRL {l : List Val} {i : Int} (h0 : 0 ≤ i) (h1 : i < l.length) : ix (toRL l) i = toR (ix l i) := by rw [toRL_map, ix_map h0 h1]
theorem rDigits_ok {n : Int} {Q : Str → Prop} (hn : I64 n) (h : Q (showInt n)) : V_rDigits n Q := by
  unfold I64 at hn
  have hd := digs_dec 20 n.natAbs (by omega) (by omega)
  have hl := digs_len 20 n.natAbs
  rw [hd] at hl
  have main : V_rDigits n Q := by
    have loop : ∀ u : Int, u = n.natAbs →
      VLoop (σ := Int × Str) (u, ([] : Str)) fun (u_19, s_21) xnext_32 =>
        ((9 : Int) < u_19 →
          ((0 : Int) < (10 : Int)) ∧
          I64 ((([u8 (IntKind.u8.wrap (IntKind.u64.wrap ((48 : Int) + (u_19.tmod (10 : Int)))))]).length : Int) + s_21.length) ∧
          ((0 : Int) < (10 : Int)) ∧
          xnext_32 ((u_19.tdiv (10 : Int)), (([u8 (IntKind.u8.wrap (IntKind.u64.wrap ((48 : Int) + (u_19.tmod (10 : Int)))))]) ++ s_21))) ∧
        (¬ ((9 : Int) < u_19) →
          I64 ((([u8 (IntKind.u8.wrap (IntKind.u64.wrap ((48 : Int) + u_19)))]).length : Int) + s_21.length) ∧
          (n < (0 : Int) →
            I64 ((([45] : Str).length : Int) + (([u8 (IntKind.u8.wrap (IntKind.u64.wrap ((48 : Int) + u_19)))]) ++ s_21).length) ∧
            Q (([45] : Str) ++ (([u8 (IntKind.u8.wrap (IntKind.u64.wrap ((48 : Int) + u_19)))]) ++ s_21))) ∧
          (¬ (n < (0 : Int)) →
            Q (([u8 (IntKind.u8.wrap (IntKind.u64.wrap ((48 : Int) + u_19)))]) ++ s_21))) := by
      intro u hu
      have dig : ∀ d : Int, 0 ≤ d → d ≤ 9 → u8 (IntKind.u8.wrap (IntKind.u64.wrap ((48 : Int) + d))) = UInt8.ofNat (48 + d.toNat) := fun d h0 h1 => by
        rw [IntWalk.u64_in _ ⟨by omega, by omega⟩, IntWalk.u8_in _ ⟨by omega, by omega⟩]
        unfold u8; congr 1; omega
      refine ⟨fun s => 0 ≤ s.1 ∧ s.1 ≤ 9223372036854775808 ∧ Lib.decDigits n.natAbs = Lib.decDigits s.1.toNat ++ s.2, fun s => s.1.toNat, ⟨by show 0 ≤ u; omega, by show u ≤ _; omega, by show _ = Lib.decDigits u.toNat ++ []; rw [hu]; simp⟩, ?_⟩
      rintro ⟨u, s⟩ ⟨u0, u1, e⟩
      simp only at u0 u1 e
      have hsl : s.length ≤ 20 := by have := congrArg List.length e; simp at this; omega
      refine ⟨fun h9 => ⟨by decide, by unfold I64; simp; omega, by decide, ⟨?_, ?_⟩⟩, fun h9 => ?_⟩
      · rw [Int.tdiv_eq_ediv_of_nonneg u0, Int.tmod_eq_emod_of_nonneg u0, dig _ (by omega) (by omega)]
        refine ⟨by show 0 ≤ u / 10; omega, by show u / 10 ≤ _; omega, ?_⟩
        show _ = Lib.decDigits (u / 10).toNat ++ ([UInt8.ofNat (48 + (u % 10).toNat)] ++ s)
        have eu : Lib.decDigits u.toNat = Lib.decDigits (u.toNat / 10) ++ [UInt8.ofNat (48 + u.toNat % 10)] := by rw [Lib.decDigits, dif_neg (by omega)]
        rw [e, eu, List.append_assoc, show u.toNat / 10 = (u / 10).toNat by omega, show u.toNat % 10 = (u % 10).toNat by omega]
      · show (u.tdiv 10).toNat < u.toNat
        rw [Int.tdiv_eq_ediv_of_nonneg u0]; omega
      · have eu : Lib.decDigits u.toNat = [UInt8.ofNat (48 + u.toNat)] := by rw [Lib.decDigits, dif_pos (by omega)]
        rw [dig u u0 (by omega)]
        unfold showInt at h
        rw [hd, e, eu] at h
        exact ⟨by unfold I64; simp; omega, fun hneg => ⟨by unfold I64; simp; omega, by rw [if_pos hneg] at h; exact h⟩, fun hneg => by rw [if_neg hneg] at h; exact h⟩
    refine VMeet_go ⟨fun hneg => loop _ ?_, fun hneg => loop _ ?_⟩
    · rw [wrap_neg hneg (by omega)]; omega
    · rw [IntWalk.u64_in _ ⟨by omega, by omega⟩]; omega
  exact main
theorem rjoin_gen {Ln : Prop} {B : Str → Int → ((Str × Int) → Prop) → Prop} {strs : List Str} {n : Int} {Q : Str → Prop} (hn : n = strs.length) (hlen : n ≤ 1000000)
    (hB : ∀ i s N, 0 ≤ i → i < n → s.length + (ix strs i).length ≤ 900000 → N (s ++ ix strs i, i + 1) → B s i N) (hb : (joinS strs).length ≤ 900000) (hQ : Q (joinS strs)) :
    VLoop (σ := Str × Int) (([] : Str), (0 : Int)) fun (s_31, i_32) xnext_63 =>
      (Ln →
      (i_32 < n →
        VMeet (σ := Str) (fun s_69 => B s_69 i_32 xnext_63) fun J_70 =>
          ((0 : Int) < i_32 →
            I64 ((s_31.length : Int) + ([44, 32] : Str).length) ∧
            J_70 (s_31 ++ ([44, 32] : Str))) ∧
          (¬ ((0 : Int) < i_32) →
            J_70 s_31)) ∧
      (¬ (i_32 < n) →
        Q s_31)) := by
  refine ⟨fun s => 0 ≤ s.2 ∧ s.2 ≤ n ∧ s.1 = joinS (strs.take s.2.toNat), fun s => (n - s.2).toNat, ⟨by simp, by simp; omega, by simp [joinS]⟩, ?_⟩
  rintro ⟨b, k⟩ ⟨k0, k1, e⟩ _
  simp only at k0 k1 e
  subst e
  refine ⟨fun hk => VMeet_go ?_, fun hk => ?_⟩
  · have hk2 : k < (strs.length : Int) := by omega
    have e1 := take_ix k0 hk2
    have e2 := joinS_snoc (strs.take k.toNat) (ix strs k)
    have e3 := joinS_take_le strs (k + 1).toNat
    have e4 := joinS_take_le strs k.toNat
    rw [e1, e2] at e3
    have hz : strs.take k.toNat = [] ↔ ¬ 0 < k := by
      rw [List.take_eq_nil_iff]; constructor
      · rintro (h | h)
        · omega
        · subst h; simp at hk2; omega
      · intro h; left; omega
    refine ⟨fun h0 => ⟨by unfold I64; simp; omega, ?_⟩, fun h0 => ?_⟩
    · have hne : ¬ strs.take k.toNat = [] := fun h => (hz.1 h) h0
      rw [if_neg hne] at e2 e3
      simp at e3
      refine hB k _ _ k0 hk (by simp; omega) ⟨⟨by show 0 ≤ k + 1; omega, by show k + 1 ≤ n; omega, ?_⟩, by show (_ : Int).toNat < (_ : Int).toNat; omega⟩
      show _ = joinS (strs.take (k + 1).toNat)
      rw [e1, e2]; simp
    · have hne := hz.2 h0
      rw [if_pos hne] at e2 e3
      refine hB k _ _ k0 hk (by rw [hne]; simp [joinS]; omega) ⟨⟨by show 0 ≤ k + 1; omega, by show k + 1 ≤ n; omega, ?_⟩, by show (_ : Int).toNat < (_ : Int).toNat; omega⟩
      show _ = joinS (strs.take (k + 1).toNat)
      rw [e1, e2, hne]; simp [joinS]
  · have : k = n := by omega
    subst this
    rw [hn] at *
    simp only [Int.toNat_natCast, List.take_length]; exact hQ
theorem rshown_ok {G : RV → (Str → Prop) → Prop} {l : List Val} {Q : Str → Prop} (hG : ∀ x ∈ l, ∀ Q, Q (showV x) → G (toR x) Q) (hb : (joinS (showLs l)).length ≤ 900000) (hQ : Q (joinS (showLs l))) : V_rshown G (toRL l) Q := by
  have hl := joinS_len (showLs l)
  rw [showLs_len] at hl
  refine rjoin_gen (B := fun s_69 i_32 xnext_63 => In i_32 (toRL l) ∧
          (I64 (ix (toRL l) i_32).k → I64 (ix (toRL l) i_32).i →
          G (ix (toRL l) i_32) fun r_85 =>
            I64 ((s_69.length : Int) + r_85.length) ∧
            I64 (i_32 + (1 : Int)) ∧
            xnext_63 ((s_69 ++ r_85), (i_32 + (1 : Int))))) (strs := showLs l) (by rw [toRL_len, showLs_len]) (by rw [toRL_len]; omega) (fun i s N i0 i1 hi hN => ?_) hb hQ
  have i2 : i < (l.length : Int) := by rw [toRL_len] at i1; exact i1
  refine ⟨⟨i0, i1⟩, fun _ _ => ?_⟩
  rw [ix_toRL i0 i2]
  rw [showLs_map, ix_map i0 i2] at hi hN
  exact hG _ (ix_mem i0 i2) _ ⟨by unfold I64; omega, by unfold I64; omega, hN⟩
theorem rSeq_ok {k v : List Val} {Q : Bool → Prop} (hk : k.length ≤ 1000000) (h : Q (seqK 1 k)) : V_rSeq (.mk 6 0 [] (toRL k) (toRL v)) Q := by
  have hlen : (toRL k).length = k.length := toRL_len k
  refine ⟨fun i => 0 ≤ i ∧ i ≤ k.length ∧ seqK (i + 1) (k.drop i.toNat) = seqK 1 k, fun i => (k.length - i).toNat, ⟨by simp, by simp, by simp⟩, ?_⟩
  show ∀ i : Int, _ → _
  rintro i ⟨i0, i1, e⟩ _
  have eks : (RV.mk 6 0 [] (toRL k) (toRL v)).ks = toRL k := rfl
  rw [eks, hlen]
  refine ⟨fun hi => VMeet_go ⟨⟨i0, by omega⟩, ?_⟩, fun hi => ?_⟩
  · rw [ix_toRL i0 hi]
    intro _
    rw [seqK_drop i0 hi] at e
    have kn : (toR (ix k i)).k = 2 ↔ (ix k i).isNum = true := by cases ix k i <;> simp [toR, RV.k, Val.isNum]
    have ki : (ix k i).isNum = true → (toR (ix k i)).i = (ix k i).numD := by cases ix k i <;> simp [toR, RV.i, Val.isNum, Val.numD]
    refine ⟨fun hn => ⟨fun _ => ?_, fun hn => by cases hn⟩, fun hn => ⟨⟨i0, by omega⟩, ?_⟩⟩
    · have : (ix k i).isNum = false := by
        cases hx : (ix k i).isNum with
        | false => rfl
        | true => exact absurd (kn.2 hx) hn
      rw [← e] at h; simpa [this] using h
    · have hn : (ix k i).isNum = true := kn.1 (by omega)
      rw [ki hn]
      intro _
      refine ⟨by unfold I64; omega, fun hd => ?_, fun hd => ⟨by unfold I64; omega, ⟨by omega, by omega, ?_⟩, by show (_ : Int).toNat < (_ : Int).toNat; omega⟩⟩
      · have hd := of_decide_eq_true hd
        rw [← e] at h; simpa [hd] using h
      · have hd := of_decide_eq_false hd
        have hd : (ix k i).numD = i + 1 := by omega
        rw [← e]; simp [hn, hd]
  · rw [List.drop_of_length_le (by omega)] at e
    rw [← e] at h; simpa [seqK, RV.k] using h
theorem rShow_ok : ∀ (m : Nat) {v : Val} {Q : Str → Prop}, v.sz < m → Ev v → (showV v).length ≤ 900000 → Q (showV v) → V_rShow m (toR v) Q
  | 0, _, _, h, _, _, _ => absurd h (by omega)
  | m + 1, v, Q, hm, he, hb, h => by
    unfold V_rShow
    cases v with
    | nil => exact ⟨fun hn => (by simp [toR, RV.k] at hn), fun _ => ⟨fun hn => (by simp [toR, RV.k] at hn), fun _ => ⟨fun hn => (by simp [toR, RV.k] at hn), fun _ => ⟨fun hn => (by simp [toR, RV.k] at hn), fun _ => ⟨fun hn => (by simp [toR, RV.k] at hn), fun _ => ⟨fun hn => (by simp [toR, RV.k] at hn), fun _ => h⟩⟩⟩⟩⟩⟩
    | truth b =>
      refine ⟨fun _ => ⟨fun hi => ?_, fun hi => ?_⟩, fun hn => absurd rfl hn⟩
      · cases b
        · exact absurd hi (by decide)
        · exact h
      · cases b
        · exact h
        · exact absurd rfl hi
    | num n => exact ⟨fun hn => (by simp [toR, RV.k] at hn), fun _ => ⟨fun _ => rDigits_ok he h, fun hn => absurd rfl hn⟩⟩
    | text s =>
      simp [showV] at hb
      refine ⟨fun hn => (by simp [toR, RV.k] at hn), fun _ => ⟨fun hn => (by simp [toR, RV.k] at hn), fun _ => ⟨fun _ => ⟨?_, ?_, ?_⟩, fun hn => absurd rfl hn⟩⟩⟩
      · show I64 (_ + (s.length : Int)); unfold I64; simp; omega
      · show I64 ((([34] ++ s).length : Int) + _); unfold I64; simp; omega
      · exact h
    | atom s => exact ⟨fun hn => (by simp [toR, RV.k] at hn), fun _ => ⟨fun hn => (by simp [toR, RV.k] at hn), fun _ => ⟨fun hn => (by simp [toR, RV.k] at hn), fun _ => ⟨fun _ => h, fun hn => absurd rfl hn⟩⟩⟩⟩
    | set l w =>
      simp [showV] at hb
      refine ⟨fun hn => (by simp [toR, RV.k] at hn), fun _ => ⟨fun hn => (by simp [toR, RV.k] at hn), fun _ => ⟨fun hn => (by simp [toR, RV.k] at hn), fun _ => ⟨fun hn => (by simp [toR, RV.k] at hn), fun _ => ⟨fun _ => ?_, fun hn => absurd rfl hn⟩⟩⟩⟩⟩
      refine rshown_ok (l := l) (fun x hx Q hQ => rShow_ok m (by have := sz_mem_set (w := w) hx; omega) (EvL_iff.1 he _ hx) (by have := joinS_ge (l := showLs l) (a := showV x) (by rw [showLs_map]; exact List.mem_map_of_mem hx); omega) hQ) (by omega) ⟨by unfold I64; simp; omega, by unfold I64; simp; omega, ?_⟩
      simpa [showV] using h
    | fn k v w =>
      simp only [showV] at hb h
      obtain ⟨he1, he2, he3⟩ := he
      refine ⟨fun hn => (by simp [toR, RV.k] at hn), fun _ => ⟨fun hn => (by simp [toR, RV.k] at hn), fun _ => ⟨fun hn => (by simp [toR, RV.k] at hn), fun _ => ⟨fun hn => (by simp [toR, RV.k] at hn), fun _ => ⟨fun hn => (by simp [toR, RV.k] at hn), fun _ => ⟨fun _ => ?_, fun hn => absurd rfl hn⟩⟩⟩⟩⟩⟩
      have hkl : k.length ≤ 1000000 := by
        split at hb
        · have hl := joinS_len (showLs v); rw [showLs_len] at hl; simp at hb; omega
        · have hl := joinS_len (pairS (showLs k) (showLs v))
          have hpl : (pairS (showLs k) (showLs v)).length = k.length := by simp [pairS, showLs_len, he1]
          simp at hb; omega
      refine rSeq_ok hkl ⟨fun hs => ?_, fun hs => ?_⟩
      · rw [if_pos hs] at hb h
        simp at hb
        refine rshown_ok (l := v) (fun x hx Q hQ => rShow_ok m (by have := sz_mem_v (k := k) (w := w) hx; omega) (EvL_iff.1 he3 _ hx) (by have := joinS_ge (l := showLs v) (a := showV x) (by rw [showLs_map]; exact List.mem_map_of_mem hx); omega) hQ) (by omega) ⟨by unfold I64; simp; omega, by unfold I64; simp; omega, ?_⟩
        simpa using h
      · rw [if_neg (by simp [hs])] at hb h
        simp at hb
        have hpl : (pairS (showLs k) (showLs v)).length = k.length := by simp [pairS, showLs_len, he1]
        refine rjoin_gen (B := fun s_125 i_74 xnext_119 => In i_74 (toRL k) ∧
                            (I64 (ix (toRL k) i_74).k → I64 (ix (toRL k) i_74).i →
                            V_rShow m (ix (toRL k) i_74) fun r_141 =>
                              In i_74 (toRL v) ∧
                              (I64 (ix (toRL v) i_74).k → I64 (ix (toRL v) i_74).i →
                              V_rShow m (ix (toRL v) i_74) fun r_153 =>
                                I64 ((s_125.length : Int) + r_141.length) ∧
                                I64 (((s_125 ++ r_141).length : Int) + ([58, 32] : Str).length) ∧
                                I64 ((((s_125 ++ r_141) ++ ([58, 32] : Str)).length : Int) + r_153.length) ∧
                                I64 (i_74 + (1 : Int)) ∧
                                xnext_119 ((((s_125 ++ r_141) ++ ([58, 32] : Str)) ++ r_153), (i_74 + (1 : Int)))))) (strs := pairS (showLs k) (showLs v)) (Q := fun s_73 => I64 ((([91] : Str).length : Int) + s_73.length) ∧ I64 (((([91] : Str) ++ s_73).length : Int) + ([93] : Str).length) ∧ Q ((([91] : Str) ++ s_73) ++ ([93] : Str)))
          (by rw [hpl]; show ((toRL k).length : Int) = _; rw [toRL_len]) (by show ((toRL k).length : Int) ≤ _; rw [toRL_len]; omega) (fun i s N i0 i1 hi hN => ?_) (by omega) ⟨by unfold I64; simp; omega, by unfold I64; simp; omega, by simpa using h⟩
        have i2 : i < (k.length : Int) := by have i1 : i < ((toRL k).length : Int) := i1; rw [toRL_len] at i1; exact i1
        have i3 : i < (v.length : Int) := by omega
        have mk := ix_mem i0 i2; have mv := ix_mem i0 i3
        rw [ix_pairS i0 (by simp [showLs_len]; omega) (by simp [showLs_len]; omega), showLs_map, showLs_map, ix_map i0 i2, ix_map i0 i3] at hi hN
        simp at hi
        refine ⟨⟨i0, i1⟩, fun _ _ => ?_⟩
        rw [ix_toRL i0 i2]
        refine rShow_ok m (by have := sz_mem_k (v := v) (w := w) mk; omega) (EvL_iff.1 he2 _ mk) (by omega) ⟨⟨i0, by rw [toRL_len]; omega⟩, fun _ _ => ?_⟩
        rw [ix_toRL i0 i3]
        refine rShow_ok m (by have := sz_mem_v (k := k) (w := w) mv; omega) (EvL_iff.1 he3 _ mv) (by omega) ⟨by unfold I64; omega, by unfold I64; simp; omega, by unfold I64; simp; omega, by unfold I64; omega, ?_⟩
        simpa using hN
def EOk {α : Type} : RO α → Prop
  | .ok _ _ _ => True
  | .err e _ => I64 e
section
variable {α : Type} {one : Str → Bool → RO α} {last : Str}
theorem e_few {e : Int} (h : 0 ≤ e ∧ e ≤ 6) : I64 e := by unfold I64; omega
theorem rdMore_E (h1 : ∀ r h, EOk (one r h)) : ∀ n l r h, EOk (rdMore one last n l r h)
  | 0, l, r, h => e_few (e := 0) (by decide)
  | n + 1, l, r, h => by
    unfold rdMore
    rcases takeS [44] r with ⟨b, r2⟩
    cases b with
    | true =>
      have := h1 r2 h
      revert this
      simp only
      rcases one r2 h with ⟨v, r3, h3⟩ | ⟨e, r'⟩
      · exact fun _ => rdMore_E h1 n _ r3 h3
      · exact fun h => h
    | false =>
      simp only
      rcases takeS last r2 with ⟨b, r3⟩
      cases b with
      | true => trivial
      | false => exact e_few (e := 1) (by decide)
theorem rdFirst_E (h1 : ∀ r h, EOk (one r h)) (r : Str) (h : Bool) : EOk (rdFirst one last r h) := by
  unfold rdFirst
  have := h1 r h
  revert this
  rcases one r h with ⟨v, r3, h3⟩ | ⟨e, r'⟩
  · exact fun _ => rdMore_E h1 _ _ r3 h3
  · exact fun h => h
theorem rdList_E (h1 : ∀ r h, EOk (one r h)) (r : Str) (d : Int) (h : Bool) : EOk (rdList one last r d h) := by
  unfold rdList
  split
  · exact e_few (e := 6) (by decide)
  · rcases takeS last (r.drop last.length) with ⟨b, r2⟩
    cases b with
    | true => trivial
    | false => exact rdFirst_E h1 r2 h
end
theorem rdPair_E {one : Str → Bool → RO Val} (h1 : ∀ r h, EOk (one r h)) (r : Str) (h : Bool) : EOk (rdPair one r h) := by
  unfold rdPair
  have := h1 r h
  revert this
  rcases one r h with ⟨k, r1, h1'⟩ | ⟨e, r'⟩
  · intro _
    simp only
    rcases takeS [58] r1 with ⟨b, r2⟩
    cases b with
    | false => exact e_few (e := 1) (by decide)
    | true =>
      simp only
      have := h1 r2 h1'
      revert this
      rcases one r2 h1' with ⟨w, r3, h3⟩ | ⟨e, r'⟩
      · exact fun _ => trivial
      · exact fun h => h
  · exact fun h => h
theorem rdSingle_E (r : Str) (h : Bool) : EOk (rdSingle r h) := by
  have wd : ∀ r w rest m, EOk (rdWord r w rest m h) := fun r w rest m => by
    unfold rdWord
    split
    · exact e_few (e := 1) (by decide)
    · unfold rdNum
      repeat' split
      all_goals first | trivial | exact e_few (e := 1) (by decide) | exact e_few (e := 5) (by decide)
  unfold rdSingle
  split
  · split
    · trivial
    · exact e_few (e := 1) (by decide)
  · split
    · exact wd _ _ _ _
    · exact wd _ _ _ _
theorem rdV_E : ∀ (f : Nat) (r : Str) (d : Int) (h : Bool), EOk (rdV f r d h)
  | 0, r, d, h => e_few (e := 0) (by decide)
  | f + 1, r, d, h => by
    have ih := fun r h => rdV_E f r (d + 1) h
    unfold rdV
    simp only
    split
    · have := rdList_E (last := [125]) ih (skipS r) d h
      revert this
      rcases rdList (fun r h => rdV f r (d + 1) h) [125] (skipS r) d h with ⟨l, r1, hh⟩ | ⟨e, r'⟩
      · exact fun _ => trivial
      · exact fun h => h
    · split
      · have := rdList_E (last := [62, 62]) ih (skipS r) d h
        revert this
        rcases rdList (fun r h => rdV f r (d + 1) h) [62, 62] (skipS r) d h with ⟨l, r1, hh⟩ | ⟨e, r'⟩
        · exact fun _ => trivial
        · exact fun h => h
      · split
        · have : EOk (rdPairs (fun r h => rdV f r (d + 1) h) (skipS r) d h) := by
            unfold rdPairs
            split
            · exact e_few (e := 6) (by decide)
            · exact rdFirst_E (rdPair_E ih) _ _
          revert this
          rcases rdPairs (fun r h => rdV f r (d + 1) h) (skipS r) d h with ⟨l, r1, hh⟩ | ⟨e, r'⟩
          · exact fun _ => trivial
          · exact fun h => h
        · exact rdSingle_E _ _
theorem rd_i64 {t : Str} {e : Int} (h : (readV t).2.2 = some e) : I64 e := by
  revert h; unfold readV
  split
  · intro h; cases h; exact e_few (by decide)
  · have := rdV_E 26 t 0 false
    revert this
    rcases rdV 26 t 0 false with ⟨v, r, hh⟩ | ⟨e, r⟩
    · intro _
      simp only
      split
      · intro h; cases h; exact e_few (by decide)
      · split
        · intro h; cases h; exact e_few (by decide)
        · intro h; cases h
    · intro h h2; cases h2; exact h
theorem ValueReads_law {t : Str} {Q : Bool → Prop} (lt : Len t) (h : Q true) : V_ValueReads t Q := by
  have f := readV_fit t
  refine Read_ok lt (rRead_ok lt ?_)
  have told : ∀ {Q : Int → Prop}, Q ((readV t).2.2.getD 0) → V_Told (readV t).2.2 Q := fun {Q} hQ => by
    refine ⟨fun hn => by rw [hn] at hQ; exact hQ, fun hn => ⟨fun h0 => absurd h0 hn, fun n hn2 => ⟨rd_i64 hn2, fun _ => ?_, fun h0 => by cases h0⟩⟩⟩
    rw [hn2] at hQ; exact hQ
  refine told ⟨fun hn => ?_, fun _ => ShowR_ok ⟨_, rShow_ok _ (Nat.lt_succ_self _) f.1.ev (by omega) (weight_ok ⟨_, rWeight_ok _ (Nat.lt_succ_self _) (by have := fit_wt f.1; omega) (VMeet_go ?_)⟩)⟩⟩
  · rcases hn with hn | hn
    · simp at hn
    · exact absurd rfl hn
  · rw [wt_toR f.1.hv]
    exact ⟨fun _ => by rw [decide_eq_true rfl]; exact h, fun hn => absurd rfl hn⟩
end Go.Vc
