/- slices.Backward at []int: what it hands back, and that this goes over the slice from its end. -/
import Derived.Test.YtmdoicffgeihcaaGreatDoorRng
import Derived.Test.YtmdoicffgeihcaaGreatDoorRow
import Derived.Test.YtmdoicffgeihcaaGreatDoorRows
import Derived.Shelf.Abstract
import Derived.WalkKit
import Derived.TacticsInMore
import Derived.LoopNIn
import Derived.LoopIn
import Derived.IntWalk
set_option linter.unusedVariables false
set_option linter.unusedSimpArgs false
namespace Go.Proofs.YtmdoicffgeihcaaGreatDoor
open Go.RowKit Go.Shelf Go.Vc

attribute [local go_sem] Oper.semAt_some
theorem back_wrap (k : Nat) : (k : Int) - 1 = -1 ∨ ∃ j : Nat, (k : Int) - 1 = j := by
  cases k with
  | zero => left; rfl
  | succ j => right; exact ⟨j, by omega⟩

/-- What has come when j elements are left. -/
def upd (xs : List Int) (j : Nat) : List Int := (xs.drop j).reverse
theorem upd_succ {xs : List Int} {j : Nat} {x : Int} (h : xs[j]? = some x) : upd xs j = upd xs (j + 1) ++ [x] := by
  obtain ⟨hj, hx⟩ := List.getElem?_eq_some_iff.1 h
  unfold upd
  rw [List.drop_eq_getElem_cons hj, List.reverse_cons, hx]

set_option maxRecDepth 100000 in
set_option maxHeartbeats 4000000 in
theorem back1_in (l bs : Nat) (sv : Value) (xs : List Int) (hx64 : ∀ x ∈ xs, I64 x) (hlen : (xs.length : Int) ≤ 9223372036854775807) (K : Seg) (J Jx : List (Bel xs) → World → Prop) (ad : Option Addr) (cap : Nat) (hsv : sv = .slice ad xs.length cap)
    (hK : ∀ W : World, (∀ p ∈ K, W.heap[p.1]? = some p.2) → W.cell? ⟨bs, 0, none⟩ = some sv ∧ ∀ j x, xs[j]? = some x → ∃ b off, ad = some ⟨b, off, none⟩ ∧ W.cell? ⟨b, off + j, none⟩ = some (.int .i64 x))
    (hY : ∀ pre x W, J pre W → pre.length < xs.length → YieldAt Fence.wide 1 Tryz.prog l (benc x) W fun e W' =>
      (e = .returned (.bool true) ∧ J (pre ++ [x]) W' ∧ KpL K W W') ∨ (e = .returned (.bool false) ∧ Jx (pre ++ [x]) W'))
    (W : World) (hW : ∀ p ∈ K, W.heap[p.1]? = some p.2) (h0 : J [] W) :
    CallsIn Fence.wide 2 Tryz.prog 61 #[.func (.yield l) #[] #[], .pointer (some ⟨bs, 0, none⟩)] W fun e W' => (∃ v, e = .returned v) ∧
      ((∃ ys, ys.map (fun p => p.1.2) = xs.reverse ∧ J ys W') ∨ (∃ pre, True ∧ Jx pre W')) := by
  subst hsv
  have hn : 1 ≤ 2 := by omega
  have hcl := (hK W hW).1
  refine callsIn_of_wp (F := Fence.wide) Tryz.func61 rfl trivial ?_ rfl
  simp only [Tryz.ntmps61, List.size_toArray, List.length_cons, List.length_nil, Nat.reduceAdd, Nat.reduceSub, Array.replicate_succ, Array.replicate_zero, List.push_toArray, List.append_toArray, List.nil_append, List.cons_append]
  have hw1 : wrap64 ((xs.length : Int) - 1) = (xs.length : Int) - 1 := IntWalk.wrap64_in _ (by omega)
  gi_wp2
  gi_loopw [3] (fun i wr => ∃ (j : Nat) (pre : List (Bel xs)), j ≤ xs.length ∧ i = .int .i64 ((j : Int) - 1) ∧ pre.map (fun p => p.1.2) = upd xs j ∧ J pre wr ∧ (∀ p ∈ K, wr.heap[p.1]? = some p.2))
    (fun i _ => (intOf i + 1).toNat)
  case atStart => exact ⟨xs.length, [], Nat.le_refl _, rfl, by simp [upd], h0, hW⟩
  case round =>
    obtain ⟨j, pre, hj, rfl, hpre, hJs, hks⟩ := hrel
    have hc2 := hK wr hks
    have hcl2 := hc2.1
    cases j with
    | zero =>
      have hx : ((0 : Nat) : Int) - 1 = -1 := rfl
      rw [hx]
      gi_wp2
      go_end0
      exact ⟨⟨_, rfl⟩, .inl ⟨pre, by rw [hpre]; simp [upd], hJs⟩⟩
    | succ j =>
      have hx : ((j + 1 : Nat) : Int) - 1 = (j : Int) := by omega
      rw [hx]
      have hlt : j < xs.length := hj
      have hget : xs[j]? = some xs[j] := List.getElem?_eq_getElem hlt
      obtain ⟨b, off, hb, hcx⟩ := hc2.2 j xs[j] hget
      subst hb
      have hmem : xs[j] ∈ xs := List.getElem_mem hlt
      have hlp : pre.length < xs.length := by
        have := congrArg List.length hpre
        simp [upd] at this; omega
      have hw2 : wrap64 ((j : Int) - 1) = (j : Int) - 1 := IntWalk.wrap64_in _ (by omega)
      obtain ⟨fn, tmps, assign, body, hy, hR⟩ := hY pre ⟨((j : Int), xs[j]), hx64 _ hmem, hmem⟩ wr hJs hlp
      simp only [benc] at hy
      gi_wp2
      refine hR.mono ?_
      rintro e W3 (⟨rfl, hJ3, hk3⟩ | ⟨rfl, hJx3⟩)
      · gi_wp2
        go_roundw
        case rel => exact ⟨j, _, by omega, rfl, by rw [List.map_append, hpre, upd_succ hget]; rfl, hJ3, fun p hp => hk3 p hp (hks p hp)⟩
        case measure => simp [intOf]
      · gi_wp2
        refine bodyPost_ret (results_none rfl _ _ _) rfl ?_
        exact ⟨⟨_, rfl⟩, .inr ⟨_, trivial, hJx3⟩⟩

theorem backIt : BackIt Tryz.prog 61 3 23 := fun H bs sv xs fp w hsv hK l J Jx W hW _ _ hY h0 => by
  have hK' : ∀ p ∈ [(bs, Obj.cells #[sv] 23 (0, 0))] ++ fp, W.heap[p.1]? = some p.2 := fun p hp => by
    have h1 := hK p hp
    rw [hW.block p.1 (Array.getElem?_eq_some_iff.1 h1).1]; exact h1
  have hcell : ∀ W : World, (∀ p ∈ [(bs, Obj.cells #[sv] 23 (0, 0))] ++ fp, W.heap[p.1]? = some p.2) → W.cell? ⟨bs, 0, none⟩ = some sv := fun W hW => by
    have := hW (bs, Obj.cells #[sv] 23 (0, 0)) (by simp)
    simp only at this
    simp [World.cell?, this]
  rcases hsv with ⟨rfl, rfl, rfl⟩ | ⟨b, cap, arr, cs, rest, rfl, rfl, e3, e4, e5, e6, e7⟩
  · exact back1_in l bs _ [] (fun x hx => by cases hx) (by simp) _ J Jx none 0 rfl (fun W hW => ⟨hcell W hW, fun j x h => by cases h⟩) hY W hK' h0
  · obtain ⟨rfl, hi⟩ := reps_ints e7
    refine back1_in l bs _ xs (fun x hx => hi x hx) (by unfold maxLen at e6; omega) _ J Jx (some ⟨b, 0, none⟩) cap rfl (fun W hW => ⟨hcell W hW, fun j x h => ⟨b, 0, rfl, ?_⟩⟩) hY W hK' h0
    have h1 := hW (b, Obj.cells arr 3 (0, 0)) (by simp)
    simp only at h1
    have h2 : arr[j]? = some (.int .i64 x) := by
      rw [← Array.getElem?_toList, e3, List.getElem?_append_left (by have := (List.getElem?_eq_some_iff.1 h).1; simpa using this), List.getElem?_map, h]; rfl
    simp [World.cell?, h1, h2]
set_option maxHeartbeats 1000000 in
theorem S_Backward {w0 : World} {H : View} {L : Seg} {w : World} {ad : Option Addr} {len cap : Nat} (hS : St w0 H L w) :
    Calls Tryz.prog 49 #[.slice ad len cap] w fun e w' => ∃ b, e = .returned (.func (.func 61) #[] #[.pointer (some ⟨b, 0, none⟩)]) ∧ St w0 H ([(b, Obj.cells #[.slice ad len cap] 23 (0, 0))] ++ L) w' := by
  refine (callsIn_wide (n := 2)).1 (callsIn_of_wp (F := Fence.wide) Tryz.func49 rfl trivial ?_ rfl)
  simp only [Tryz.ntmps49, List.size_toArray, List.length_cons, List.length_nil, Nat.reduceAdd, Nat.reduceSub, Array.replicate_succ, Array.replicate_zero, List.push_toArray, List.append_toArray, List.nil_append, List.cons_append]
  gi_wp2
  go_ret
  exact ⟨_, rfl, hS.alloc _⟩
theorem S_BackwardO {α : Type} {c : Codec α} {T : TypeId} {v : Value} {xs : List α} {fp : Seg} {w0 : World} {H : View} {L : Seg} {w : World} (h : OwnSl H c T v xs fp) (hS : St w0 H L w) :
    Calls Tryz.prog 49 #[v] w fun e w' => ∃ b, e = .returned (.func (.func 61) #[] #[.pointer (some ⟨b, 0, none⟩)]) ∧ St w0 H ([(b, Obj.cells #[v] 23 (0, 0))] ++ L) w' := by
  rcases h with ⟨rfl, rfl, rfl⟩ | ⟨b, cap, arr, cs, rest, rfl, _⟩
  · exact S_Backward hS
  · exact S_Backward hS
theorem slice_of_own {α : Type} {H : View} {c : Codec α} {T : TypeId} {v : Value} {xs : List α} {fp : Seg} (h : OwnSl H c T v xs fp) : ∃ ad cap, v = .slice ad xs.length cap := by
  rcases h with ⟨rfl, rfl, rfl⟩ | ⟨b, cap, arr, cs, rest, rfl, _⟩
  · exact ⟨none, 0, rfl⟩
  · exact ⟨_, cap, rfl⟩
end Go.Proofs.YtmdoicffgeihcaaGreatDoor
