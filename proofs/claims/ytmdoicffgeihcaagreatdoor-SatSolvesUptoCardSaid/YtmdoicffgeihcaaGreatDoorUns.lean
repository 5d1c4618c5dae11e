/- What the walks of the search use of the texts of seat v: numbers without a sign, a part of an owned slice beside the whole, results in cells. -/
import Derived.Test.YtmdoicffgeihcaaGreatDoorAre
import Derived.Test.YtmdoicffgeihcaaGreatDoorSrt
set_option linter.unusedVariables false
set_option linter.unusedSimpArgs false
namespace Go.Vc
open Go
theorem cells_slice {a : Option Addr} {n c : Nat} : (Value.slice a n c).cells = #[.slice a n c] := rfl
theorem cells_flt {k : FloatKind} {b : Nat} : (Value.float k b).cells = #[.float k b] := rfl
theorem has_u64 {i : Int} (h : 0 ≤ i ∧ i ≤ 18446744073709551615) : IntKind.u64.has i := by
  simp only [IntKind.has, IntKind.min, IntKind.max, IntKind.bits, IntKind.signed]; simp; omega
theorem u64_has {i : Int} (h : IntKind.u64.has i) : 0 ≤ i ∧ i ≤ 18446744073709551615 := by
  simp only [IntKind.has, IntKind.min, IntKind.max, IntKind.bits, IntKind.signed] at h; simp at h; omega
theorem shr_has {i : Int} (h : IntKind.u64.has i) {q : Int} (hq : 0 < q := by decide) : IntKind.u64.has (i / q) := by
  have := u64_has h
  refine has_u64 ⟨Int.ediv_nonneg this.1 (by omega), ?_⟩
  have h1 := Int.ediv_le_self q this.1
  omega
section
variable {P : Program} {n : Nat} {l : List (Nat × Value)} {C : World → Prop} {dst : Option Tmp} {ty : TypeId} {pos : String} {af : Array Edge} {gd : Option (Nat × Bool)} {H : View}
theorem ex_conv_int {src dt : TypeId} {x : Operand} {k k' : IntKind} {i : Int} (hs : P.underlying src = some (.int k)) (hd : P.underlying dt = some (.int k')) (hx : opv l x = some (.int k i)) :
    Exv P n l C ⟨dst, .convert src dt x, ty, pos, af, gd⟩ (.int k' (k'.wrap i)) := fun w _ a ha => by
  simp [execOp, ha.eval hx, convert, run_underlying hs, run_underlying hd, Conv.intToInt]
theorem ex_wrap_add {t t' : TypeId} {k : IntKind} {x y : Operand} {p q : Int} (hx : opv l x = some (.int k p)) (hy : opv l y = some (.int k q)) : Exv P n l C ⟨dst, .binOp .add t x y t', ty, pos, af, gd⟩ (.int k (k.wrap (p + q))) := ex_bin hx hy fun w => by simp [binOp, Op.intArith]
theorem ex_wrap_sub {t t' : TypeId} {k : IntKind} {x y : Operand} {p q : Int} (hx : opv l x = some (.int k p)) (hy : opv l y = some (.int k q)) : Exv P n l C ⟨dst, .binOp .sub t x y t', ty, pos, af, gd⟩ (.int k (k.wrap (p - q))) := ex_bin hx hy fun w => by simp [binOp, Op.intArith]
theorem ex_wrap_mul {t t' : TypeId} {k : IntKind} {x y : Operand} {p q : Int} (hx : opv l x = some (.int k p)) (hy : opv l y = some (.int k q)) : Exv P n l C ⟨dst, .binOp .mul t x y t', ty, pos, af, gd⟩ (.int k (k.wrap (p * q))) := ex_bin hx hy fun w => by simp [binOp, Op.intArith]
theorem ex_wrap_neg {t : TypeId} {k : IntKind} {x : Operand} {p : Int} (hx : opv l x = some (.int k p)) : Exv P n l C ⟨dst, .unOp .neg t x, ty, pos, af, gd⟩ (.int k (k.wrap (-p))) := fun w _ a ha => by
  simp [execOp, ha.eval hx, Op.unary, Op.intArith]
theorem ex_ushr {t t' : TypeId} {x y : Operand} {p : Int} {q : Nat} {k : IntKind} (hx : opv l x = some (.int .u64 p)) (hy : opv l y = some (.int k (q : Nat))) (hp : IntKind.u64.has p) (hq : q < 64) : Exv P n l C ⟨dst, .binOp .shr t x y t', ty, pos, af, gd⟩ (.int .u64 (p / (2 ^ q : Nat))) := fun w _ a ha => by
  have hm : min ((q : Int)).toNat IntKind.u64.bits = q := by show min ((q : Int)).toNat 64 = q; omega
  have h3 : p.fdiv (2 ^ q) = p / (2 ^ q : Nat) := by
    rw [Int.fdiv_eq_ediv_of_nonneg _ (Int.pow_nonneg (by omega))]; congr 1
  have : (binOp .shr t (.int .u64 p) (.int k (q : Nat))).run P w = .ok (.int .u64 (p / (2 ^ q : Nat))) w := by
    simp only [binOp, Op.shift]
    rw [if_neg (by omega), hm]
    simp [h3]
  simp only [execOp, ha.eval hx, ha.eval hy]
  rw [Sem.run_bind, run_binS this]
  rfl
end
theorem wrap_has (k : IntKind) (x : Int) : k.has (k.wrap x) := by
  cases k <;> simp only [IntKind.has, IntKind.wrap, IntKind.min, IntKind.max, IntKind.bits, IntKind.signed] <;> simp <;> first | omega | (split <;> omega)
theorem wrap_I64 (x : Int) : I64 (IntKind.i64.wrap x) := has_I64 (wrap_has _ x)
def OwnAl {α : Type} (c : Codec α) (v : Value) (off : Int) (u : Value) : Prop :=
  ∃ b n cap, v = .slice (some ⟨b, 0, none⟩) n cap ∧ 0 ≤ off ∧ off < n ∧ n ≤ cap ∧ u = .slice (some ⟨b, off.toNat * c.size, none⟩) (n - off.toNat) (cap - off.toNat)
section
variable {P : Program} {n : Nat} {l : List (Nat × Value)} {C : World → Prop} {dst : Option Tmp} {ty : TypeId} {pos : String} {af : Array Edge} {gd : Option (Nat × Bool)} {H : View} {α : Type} {c : Codec α} {T : TypeId} {fp : Seg} {t e : TypeId} {x y : Operand} {v u : Value} {xs : List α} {k : IntKind} {i off : Int}
theorem ex_slice_al (ht : P.underlying t = some (.slice e)) (hsz : ∀ w, (sizeOf e).run P w = .ok c.size w) (hx : opv l x = some v) (hy : opv l y = some (.int k i)) (hs : OwnSl H c T v xs fp) (h : 0 ≤ i ∧ i < xs.length) :
    ∃ u, OwnAl c v i u ∧ Exv P n l C ⟨dst, .slice t x (some y) none none, ty, pos, af, gd⟩ u := by
  rcases hs with ⟨rfl, rfl, _⟩ | ⟨b, cap, arr, cs, rest, rfl, rfl, e3, e4, e5, e6, e7⟩
  · simp at h; omega
  · refine ⟨_, ⟨b, _, cap, rfl, h.1, h.2, e5, rfl⟩, fun w _ a ha => ?_⟩
    have hb1 := fun w => run_bound (P := P) (k := k) (y := xs.length) (code := .sliceB) (w := w) h.1 (show i ≤ (xs.length : Int) by omega)
    have hb2 : ¬ cap - i.toNat = 0 := by omega
    simp [execOp, Instr.sliceAt, Instr.slice, ha.eval hx, ha.eval hy, run_underlying ht, Instr.sliceBounds, hb1, hsz, hb2, Addr.add_lit]
    intro hc; omega
theorem ex_len_al (ht : P.underlying t = some (.slice e)) (hx : opv l x = some u) (hs : OwnSl H c T v xs fp) (ha : OwnAl c v off u) :
    Exv P n l C ⟨dst, .call { callee := .builtin .len, args := #[x], argTypes := #[t] }, ty, pos, af, gd⟩ (.int .i64 ((xs.length : Int) - off)) := by
  obtain ⟨b, m, cap, rfl, h1, h2, h3, rfl⟩ := ha
  rcases hs with ⟨e, _⟩ | ⟨b', cap', arr, cs, rest, e, rfl, _⟩
  · cases e
  · cases e
    have := ex_len (C := C) (dst := dst) (ty := ty) (pos := pos) (af := af) (gd := gd) (n := n) ht hx
    have e2 : ((xs.length - off.toNat : Nat) : Int) = (xs.length : Int) - off := by omega
    rw [e2] at this
    exact this
theorem ex_index_al (ht : P.underlying t = some (.slice e)) (hsz : ∀ w, (sizeOf e).run P w = .ok c.size w) (hx : opv l x = some u) (hy : opv l y = some (.int k i)) (hs : OwnSl H c T v xs fp) (ha : OwnAl c v off u) (h : 0 ≤ i ∧ off + i < xs.length) :
    ∃ p, OwnPt c v (off + i).toNat p ∧ Exv P n l C ⟨dst, .indexAddr t x y, ty, pos, af, gd⟩ p := by
  obtain ⟨b, m, cap, rfl, h1, h2, h3, rfl⟩ := ha
  rcases hs with ⟨e, _⟩ | ⟨b', cap', arr, cs, rest, e, rfl, _⟩
  · cases e
  · cases e
    refine ⟨.pointer (some ⟨b, (off + i).toNat * c.size, none⟩), ⟨b, _, _, rfl, rfl⟩, fun w _ a ha => ?_⟩
    have hi : 0 ≤ i ∧ i < ((xs.length - off.toNat : Nat) : Int) := by omega
    have e3 : off.toNat * c.size + i.toNat * c.size = (off + i).toNat * c.size := by rw [← Nat.add_mul]; congr 1; omega
    simp [execOp, Instr.indexAt, ha.eval hx, ha.eval hy, asIntOf, run_underlying ht, hi, hsz, Addr.add_lit, e3]
end
section leave
variable {P : Program} {fn : Func} {R : Ending → World → Prop} {n : Nat} {l : List (Nat × Value)} {w : World}
theorem leavec1 {t : Tmp} {T : TypeId} {b : Addr} {v : Value} {e : Exit} (he : e = .ret ∨ e = .normal) (hr : fn.results = #[.cell t T]) (hv : lk l t = some (.pointer (some b))) (hl : (loadVar T b).run P w = .ok v w) (h : R (.returned v) w) : WQ (bodyPost P fn R) e n l w := fun a ha => by
  have h1 := ha.val t _ hv
  rcases he with rfl | rfl <;>
  · refine ⟨ha.defers, v, ?_, h⟩
    simp [results, hr, Array.getD_eq_getD_getElem?, h1, asAddr, hl]
theorem leavec2 {t u : Tmp} {T U : TypeId} {b c : Addr} {v x : Value} {e : Exit} (he : e = .ret ∨ e = .normal) (hr : fn.results = #[.cell t T, .cell u U]) (hv : lk l t = some (.pointer (some b))) (hx : lk l u = some (.pointer (some c))) (hl : (loadVar T b).run P w = .ok v w) (hm : (loadVar U c).run P w = .ok x w) (h : R (.returned (.tuple #[v, x])) w) : WQ (bodyPost P fn R) e n l w := fun a ha => by
  have h1 := ha.val t _ hv
  have h2 := ha.val u _ hx
  rcases he with rfl | rfl <;>
  · refine ⟨ha.defers, _, ?_, h⟩
    simp [results, hr, Array.getD_eq_getD_getElem?, h1, h2, asAddr, hl, hm]
theorem leavectt {t u k : Tmp} {T : TypeId} {b : Addr} {v x y : Value} {e : Exit} (he : e = .ret ∨ e = .normal) (hr : fn.results = #[.cell t T, .tmp u, .tmp k]) (hv : lk l t = some (.pointer (some b))) (hx : lk l u = some x) (hy : lk l k = some y) (hl : (loadVar T b).run P w = .ok v w) (h : R (.returned (.tuple #[v, x, y])) w) : WQ (bodyPost P fn R) e n l w := fun a ha => by
  have h1 := ha.val t _ hv
  have h2 := ha.val u _ hx
  have h3 := ha.val k _ hy
  rcases he with rfl | rfl <;>
  · refine ⟨ha.defers, _, ?_, h⟩
    simp [results, hr, Array.getD_eq_getD_getElem?, h1, h2, h3, asAddr, hl]
theorem leavect {t u : Tmp} {T : TypeId} {b : Addr} {v x : Value} {e : Exit} (he : e = .ret ∨ e = .normal) (hr : fn.results = #[.cell t T, .tmp u]) (hv : lk l t = some (.pointer (some b))) (hx : lk l u = some x) (hl : (loadVar T b).run P w = .ok v w) (h : R (.returned (.tuple #[v, x])) w) : WQ (bodyPost P fn R) e n l w := fun a ha => by
  have h1 := ha.val t _ hv
  have h2 := ha.val u _ hx
  rcases he with rfl | rfl <;>
  · refine ⟨ha.defers, _, ?_, h⟩
    simp [results, hr, Array.getD_eq_getD_getElem?, h1, h2, asAddr, hl]
end leave
section cell
variable {P : Program} {w0 w : World} {H : View} {L : Seg}
/-- What an own variable holds, at the end. -/
theorem load_own {t : TypeId} {b : Nat} {T : TypeId} {u : Value} (hag : ∀ w, (isAgg t).run P w = .ok false w) (hS : St w0 H ([(b, Obj.cells #[u] T (0, 0))] ++ L) w) : (loadVar t ⟨b, 0, none⟩).run P w = .ok u w :=
  run_load_cell hag (block_cell hS rfl)
theorem load_own_agg {t : TypeId} {b k : Nat} {T : TypeId} {cs : List Value} (hag : ∀ w, (isAgg t).run P w = .ok true w) (hsz : ∀ w, (sizeOf t).run P w = .ok k w) (hS : St w0 H ([(b, Obj.cells cs.toArray T (0, 0))] ++ L) w) (hk : cs.length = k) : (loadVar t ⟨b, 0, none⟩).run P w = .ok (.agg cs.toArray) w := by
  have hb := hS.own (b, Obj.cells cs.toArray T (0, 0)) (by simp)
  have := run_loadCells_block (P := P) (off := 0) (k := k) (cs := cs) hb (by simp [← hk]) hk
  simp [loadVar, hag, hsz, this]
end cell
/-- A load out of the arena, walked ahead: its value stands as long as that element does. -/
theorem Wd.runr {P : Program} {ops : Array Oper} {eff : Nat → Bool} {anc : Nat → Nat → Bool} {Qx : Exit → Act → World → Prop} {n : Nat} {l : List (Nat × Value)} {R : List Nat} {pend : Pend} {C : World → Prop} {w0 : World} {H : View} {fp L : Seg} {T : TypeId} {A : Arena} {r : Raw} {z : Int} {i d : Nat} {t : TypeId} {x : Operand} {ty : TypeId} {pos : String} {af : Array Edge} {gd : Option (Nat × Bool)}
    (ho : ops[i]? = some ⟨some d, .load t x, ty, pos, af, gd⟩) (he : eff i = false) (_hd : (some d : Option Tmp) = some d) (hdn : Nat.blt d n = true) (hag : ∀ w, (isAgg t).run P w = .ok false w) (hx : opv l x = some (rawP r z)) (hA : IsAr T A fp) (h : RdOk A r z) (hC : ∀ w, C w → St w0 H (fp ++ L) w)
    (k : ∀ p : (World → Prop) → Prop, (∀ (K : View) (L : Seg) (fp' : Seg) (A' : Arena) (C' : World → Prop), IsAr T A' fp' → RdOk A' r z → ag A' r z = ag A r z → (∀ w, C' w → St w0 K (fp' ++ L) w) → p C') → Wd P ops eff anc Qx n ((d, .int .i64 (ag A r z)) :: l) R ((i, p) :: pend) C) : Wd P ops eff anc Qx n l (i :: R) pend C :=
  Wd.step ho he rfl hdn ((ex_r_load hag hx hA h).of hC) fun p hp => k p fun K L fp' A' C' hA' h' e hc => hp C' (by rw [← e]; exact (ex_r_load hag hx hA' h').of hc)
section segs
variable {w0 w : World} {H : View} {L : Seg}
theorem St.f21 {a1 a2 a3 a4 a5 a6 a7 a8 a9 a10 a11 a12 a13 a14 a15 a16 a17 a18 a19 a20 a21 : Seg} (h : St w0 H (a1 ++ (a2 ++ (a3 ++ (a4 ++ (a5 ++ (a6 ++ (a7 ++ (a8 ++ (a9 ++ (a10 ++ (a11 ++ (a12 ++ (a13 ++ (a14 ++ (a15 ++ (a16 ++ (a17 ++ (a18 ++ (a19 ++ (a20 ++ (a21 ++ L))))))))))))))))))))) w) : St w0 H (a21 ++ (a1 ++ (a2 ++ (a3 ++ (a4 ++ (a5 ++ (a6 ++ (a7 ++ (a8 ++ (a9 ++ (a10 ++ (a11 ++ (a12 ++ (a13 ++ (a14 ++ (a15 ++ (a16 ++ (a17 ++ (a18 ++ (a19 ++ (a20 ++ L))))))))))))))))))))) w :=
  St.f20 (L := a20 ++ L) (h.perm (List.Perm.append_left a1 (List.Perm.append_left a2 (List.Perm.append_left a3 (List.Perm.append_left a4 (List.Perm.append_left a5 (List.Perm.append_left a6 (List.Perm.append_left a7 (List.Perm.append_left a8 (List.Perm.append_left a9 (List.Perm.append_left a10 (List.Perm.append_left a11 (List.Perm.append_left a12 (List.Perm.append_left a13 (List.Perm.append_left a14 (List.Perm.append_left a15 (List.Perm.append_left a16 (List.Perm.append_left a17 (List.Perm.append_left a18 (List.Perm.append_left a19 ((by rw [← List.append_assoc, ← List.append_assoc]; exact List.Perm.append_right _ List.perm_append_comm))))))))))))))))))))))
theorem St.f22 {a1 a2 a3 a4 a5 a6 a7 a8 a9 a10 a11 a12 a13 a14 a15 a16 a17 a18 a19 a20 a21 a22 : Seg} (h : St w0 H (a1 ++ (a2 ++ (a3 ++ (a4 ++ (a5 ++ (a6 ++ (a7 ++ (a8 ++ (a9 ++ (a10 ++ (a11 ++ (a12 ++ (a13 ++ (a14 ++ (a15 ++ (a16 ++ (a17 ++ (a18 ++ (a19 ++ (a20 ++ (a21 ++ (a22 ++ L)))))))))))))))))))))) w) : St w0 H (a22 ++ (a1 ++ (a2 ++ (a3 ++ (a4 ++ (a5 ++ (a6 ++ (a7 ++ (a8 ++ (a9 ++ (a10 ++ (a11 ++ (a12 ++ (a13 ++ (a14 ++ (a15 ++ (a16 ++ (a17 ++ (a18 ++ (a19 ++ (a20 ++ (a21 ++ L)))))))))))))))))))))) w :=
  St.f21 (L := a21 ++ L) (h.perm (List.Perm.append_left a1 (List.Perm.append_left a2 (List.Perm.append_left a3 (List.Perm.append_left a4 (List.Perm.append_left a5 (List.Perm.append_left a6 (List.Perm.append_left a7 (List.Perm.append_left a8 (List.Perm.append_left a9 (List.Perm.append_left a10 (List.Perm.append_left a11 (List.Perm.append_left a12 (List.Perm.append_left a13 (List.Perm.append_left a14 (List.Perm.append_left a15 (List.Perm.append_left a16 (List.Perm.append_left a17 (List.Perm.append_left a18 (List.Perm.append_left a19 (List.Perm.append_left a20 ((by rw [← List.append_assoc, ← List.append_assoc]; exact List.Perm.append_right _ List.perm_append_comm)))))))))))))))))))))))
theorem St.f23 {a1 a2 a3 a4 a5 a6 a7 a8 a9 a10 a11 a12 a13 a14 a15 a16 a17 a18 a19 a20 a21 a22 a23 : Seg} (h : St w0 H (a1 ++ (a2 ++ (a3 ++ (a4 ++ (a5 ++ (a6 ++ (a7 ++ (a8 ++ (a9 ++ (a10 ++ (a11 ++ (a12 ++ (a13 ++ (a14 ++ (a15 ++ (a16 ++ (a17 ++ (a18 ++ (a19 ++ (a20 ++ (a21 ++ (a22 ++ (a23 ++ L))))))))))))))))))))))) w) : St w0 H (a23 ++ (a1 ++ (a2 ++ (a3 ++ (a4 ++ (a5 ++ (a6 ++ (a7 ++ (a8 ++ (a9 ++ (a10 ++ (a11 ++ (a12 ++ (a13 ++ (a14 ++ (a15 ++ (a16 ++ (a17 ++ (a18 ++ (a19 ++ (a20 ++ (a21 ++ (a22 ++ L))))))))))))))))))))))) w :=
  St.f22 (L := a22 ++ L) (h.perm (List.Perm.append_left a1 (List.Perm.append_left a2 (List.Perm.append_left a3 (List.Perm.append_left a4 (List.Perm.append_left a5 (List.Perm.append_left a6 (List.Perm.append_left a7 (List.Perm.append_left a8 (List.Perm.append_left a9 (List.Perm.append_left a10 (List.Perm.append_left a11 (List.Perm.append_left a12 (List.Perm.append_left a13 (List.Perm.append_left a14 (List.Perm.append_left a15 (List.Perm.append_left a16 (List.Perm.append_left a17 (List.Perm.append_left a18 (List.Perm.append_left a19 (List.Perm.append_left a20 (List.Perm.append_left a21 ((by rw [← List.append_assoc, ← List.append_assoc]; exact List.Perm.append_right _ List.perm_append_comm))))))))))))))))))))))))
theorem St.f24 {a1 a2 a3 a4 a5 a6 a7 a8 a9 a10 a11 a12 a13 a14 a15 a16 a17 a18 a19 a20 a21 a22 a23 a24 : Seg} (h : St w0 H (a1 ++ (a2 ++ (a3 ++ (a4 ++ (a5 ++ (a6 ++ (a7 ++ (a8 ++ (a9 ++ (a10 ++ (a11 ++ (a12 ++ (a13 ++ (a14 ++ (a15 ++ (a16 ++ (a17 ++ (a18 ++ (a19 ++ (a20 ++ (a21 ++ (a22 ++ (a23 ++ (a24 ++ L)))))))))))))))))))))))) w) : St w0 H (a24 ++ (a1 ++ (a2 ++ (a3 ++ (a4 ++ (a5 ++ (a6 ++ (a7 ++ (a8 ++ (a9 ++ (a10 ++ (a11 ++ (a12 ++ (a13 ++ (a14 ++ (a15 ++ (a16 ++ (a17 ++ (a18 ++ (a19 ++ (a20 ++ (a21 ++ (a22 ++ (a23 ++ L)))))))))))))))))))))))) w :=
  St.f23 (L := a23 ++ L) (h.perm (List.Perm.append_left a1 (List.Perm.append_left a2 (List.Perm.append_left a3 (List.Perm.append_left a4 (List.Perm.append_left a5 (List.Perm.append_left a6 (List.Perm.append_left a7 (List.Perm.append_left a8 (List.Perm.append_left a9 (List.Perm.append_left a10 (List.Perm.append_left a11 (List.Perm.append_left a12 (List.Perm.append_left a13 (List.Perm.append_left a14 (List.Perm.append_left a15 (List.Perm.append_left a16 (List.Perm.append_left a17 (List.Perm.append_left a18 (List.Perm.append_left a19 (List.Perm.append_left a20 (List.Perm.append_left a21 (List.Perm.append_left a22 ((by rw [← List.append_assoc, ← List.append_assoc]; exact List.Perm.append_right _ List.perm_append_comm)))))))))))))))))))))))))
end segs
end Go.Vc
