/- A clause whose first two change places; a clause that looks at another literal. No program in sight. -/
import Derived.Test.YtmdoicffgeihcaaGreatDoorPlainT4
set_option linter.unusedVariables false
namespace Go.Vc
theorem ix_getE {xs : List Int} {k : Nat} {x : Int} (h : xs[k]? = some x) : ix xs (k : Int) = x := by
  obtain ⟨h1, h2⟩ := List.getElem?_eq_some_iff.1 h
  rw [ix_nat h1, h2]
theorem swap_lies {A : Arena} {own : Own} {κ : Key} {c : Raw} (hc : Lies A own κ c) (h : 1 < c.n) : Fix κ A own (aset (aset A c 0 (ag A c 1)) c 1 (ag A c 0)) own ∧ Lies (aset (aset A c 0 (ag A c 1)) c 1 (ag A c 0)) own κ c ∧
    aread (aset (aset A c 0 (ag A c 1)) c 1 (ag A c 0)) c = ((aread A c).set 0 (ix (aread A c) 1)).set 1 (ix (aread A c) 0) ∧ RdOk (aset A c 0 (ag A c 1)) c 1 := by
  obtain ⟨_, _, e0⟩ := hc.rd (i := 0) (by omega) (by omega)
  obtain ⟨_, _, e1⟩ := hc.rd (i := 1) (by omega) (by omega)
  obtain ⟨f1, l1, r1⟩ := hc.set (i := 0) (z := ag A c 1) (by omega) (by omega)
  obtain ⟨f2, l2, r2⟩ := l1.set (i := 1) (z := ag A c 0) (by omega) (by omega)
  refine ⟨f1.trans f2, l2, ?_, (l1.rd (i := 1) (by omega) (by omega)).2.1⟩
  rw [r2, r1, e0, e1]; rfl
section fn
variable {n : Int} {cs : List Raw} {watch : List (Int × Raw)} {value level reason T starts : List Int} {head : Int} {heat : List Unit} {proof : List (Bool × List Int)} {dead : Bool} {A : Arena} {Cl : List (List Int)}
theorem move_ok (h : TI n value level reason T starts Cl) {own : Own} {k0 : Nat} {c : Raw} {i l : Int} {Q : Bool → List (Int × Raw) → Arena → Prop} (hc : Lies A own (.cl k0) c) (h0 : 0 < c.n) (hlit : litsOk n (aread A c) = true) (hbig : c.n ≤ 1048576)
    (hm : ∀ w, w ≠ l → Lies A own (.wt w) (mgetD watch w rnil) ∧ (aread A (mgetD watch w rnil)).length ≤ 134217728) (hl : tv T l < 0)
    (h1 : 0 < tv T (ix (aread A c) 0) → Q false watch A) (h2 : ¬ 0 < tv T (ix (aread A c) 0) → (∀ (j : Nat) y, 2 ≤ j → (aread A c)[j]? = some y → tv T y < 0) → Q false watch A)
    (h3 : ¬ 0 < tv T (ix (aread A c) 0) → ∀ (k : Nat) (w : Int) (A2 A' : Arena) (own' : Own) (r' : Raw), 2 ≤ k → (aread A c)[k]? = some w → 0 ≤ tv T w → Fix (.cl k0) A own A2 own → Lies A2 own (.cl k0) c →
      aread A2 c = ((aread A c).set 1 w).set k (ix (aread A c) 1) → Fix (.wt w) A2 own A' own' → Lies A' own' (.wt w) r' → aread A' r' = aread A (mgetD watch w rnil) ++ [i] → Q true (mset watch w r') A') :
    V_move n cs watch value level reason T starts head heat proof dead A c i l Q := by
  have hlen := hc.length
  obtain ⟨i0, r0, e0⟩ := hc.rd (i := 0) (by omega) (by omega)
  refine ⟨i0, r0, ?_⟩
  rw [e0]
  refine of_ok h (mem_lits hlit (ix_mem (by omega) (by omega))) ⟨h1, fun hn0 => ?_⟩
  refine ⟨fun k => 2 ≤ k ∧ ∀ (j : Nat) y, 2 ≤ j → (j : Int) < k → (aread A c)[j]? = some y → tv T y < 0, fun k => ((c.n : Int) - k).toNat, ⟨by omega, fun j y a b => by omega⟩, ?_⟩
  rintro k ⟨hk2, hpre⟩
  refine ⟨by unfold I64; omega, fun hlt => ?_, fun hge => h2 hn0 fun j y hj hy => hpre j y hj (by have := (List.getElem?_eq_some_iff.1 hy).1; omega) hy⟩
  obtain ⟨ik, rk, ek⟩ := hc.rd (i := k) (by omega) hlt
  have hmem : ix (aread A c) k ∈ aread A c := ix_mem (by omega) (by omega)
  refine ⟨ik, rk, ?_⟩
  rw [ek]
  refine of_ok h (mem_lits hlit hmem) ⟨fun hge => ?_, fun hlt0 => ⟨by unfold I64; omega, ⟨by omega, fun j y hj hjk hy => ?_⟩, by first | omega | (dsimp only; omega)⟩⟩
  · obtain ⟨i1, r1, e1⟩ := hc.rd (i := 1) (by omega) (by omega)
    have hget : (aread A c)[k.toNat]? = some (ix (aread A c) k) := ix_get (by omega) (by omega)
    generalize hw : ix (aread A c) k = w at *
    obtain ⟨f1, l1, q1⟩ := hc.set (i := 1) (z := w) (by omega) (by omega)
    obtain ⟨f2, l2, q2⟩ := l1.set (i := k) (z := ag A c 1) (by omega) hlt
    have hwl : w ≠ l := fun e => by rw [e] at hge; omega
    obtain ⟨lw, bw⟩ := hm w hwl
    obtain ⟨lw1, ew1⟩ := lw.other (by simp) (f1.trans f2)
    have q3 : aread (aset (aset A c 1 w) c k (ag A c 1)) c = ((aread A c).set 1 w).set k.toNat (ix (aread A c) 1) := by rw [q2, q1, e1]; rfl
    obtain ⟨_, r2, e2⟩ := l2.rd (i := 1) (by omega) (by omega)
    have e3 : ag (aset (aset A c 1 w) c k (ag A c 1)) c 1 = w := by
      rw [e2, q3]
      unfold ix
      rw [List.getD_eq_getElem?_getD, List.getElem?_set_ne (by omega)]
      show ((aread A c).set 1 w)[1]?.getD default = w
      rw [List.getElem?_set_self (by omega)]; rfl
    have hroom : Room ((mgetD watch w rnil).n + 1) 8 := by
      have := lw.length
      exact ⟨by omega, by unfold maxLen; omega⟩
    refine ⟨ik, rk, i1, r1, i1, r1, ik, (l1.rd (by omega) hlt).2.1, i1, r2, i1, r2, ?_, ?_, fun A' r' hA => ?_⟩
    · rw [e3]; exact lw1.apok
    · rw [e3]; exact hroom
    · rw [e3] at hA ⊢
      obtain ⟨own', f3, l3, q4⟩ := lw1.append hA
      obtain ⟨l4, q5⟩ := l2.other (κ' := .cl k0) (by simp) f3
      obtain ⟨_, r5, e5⟩ := l4.rd (i := 1) (by omega) (by omega)
      refine ⟨⟨r5, ?_⟩, h3 hn0 k.toNat w _ A' own' r' (by omega) hget hge (f1.trans f2) l2 q3 f3 l3 (by rw [q4, ew1])⟩
      rw [e5, q5, ← e2, e3]
  · by_cases e : (j : Int) = k
    · subst e
      rw [ix_getE hy] at hlt0; omega
    · exact hpre j y hj (by omega) hy
end fn
end Go.Vc
