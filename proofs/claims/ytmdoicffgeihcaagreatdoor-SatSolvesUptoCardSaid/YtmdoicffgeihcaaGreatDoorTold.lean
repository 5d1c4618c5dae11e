/- errors.As at the target '*api.Errno', in the calculus' form; the package-level variable that it reads. -/
import Derived.Test.YtmdoicffgeihcaaGreatDoorBox
import Derived.Test.YtmdoicffgeihcaaGreatDoorErrAs
set_option linter.unusedVariables false
namespace Go.Vc
/-- The variable errors.errorType holds the handle of the type error. -/
def Glob (H : View) : Prop := ∃ arr T fz, H 0 = some (.cells arr T fz) ∧ arr[0]? = some (.iface 104 (.agg #[.pointer (some ⟨1, 32, none⟩)]))
theorem Glob.mono {H K : View} (h : Glob H) (hle : View.le H K) : Glob K := by
  obtain ⟨arr, T, fz, h1, h2⟩ := h
  exact ⟨arr, T, fz, hle _ _ h1, h2⟩
theorem glob_of_cell {W : World} (h : W.cell? ⟨0, 0, none⟩ = some (.iface 104 (.agg #[.pointer (some ⟨1, 32, none⟩)]))) : Glob (fun k => W.heap[k]?) := by
  unfold World.cell? at h
  split at h
  · rename_i arr T fz hh; exact ⟨arr, T, fz, hh, by simpa using h⟩
  · cases h
def V_As (e : Option Int) (x : Int) (Q : Bool → Int → Prop) : Prop := (e = none → Q false x) ∧ ∀ n, e = some n → I64 n ∧ Q true n
end Go.Vc
namespace Go.Proofs.YtmdoicffgeihcaaGreatDoor
open Go.Vc Go.RowKit
theorem S_As {w0 : World} {H : View} {L : Seg} {w : World} {e : Option Int} {b : Nat} {x : Int} {Q : Bool → Int → Prop} (hr : I64 x) (hG : Glob H) (hS : St w0 H ([(b, .cells #[.int .i64 x] 46 (0, 0))] ++ L) w) (hV : V_As e x Q) :
    Calls Tryz.prog 36 #[errV 46 e, .iface 72 (.pointer (some ⟨b, 0, none⟩))] w fun ev w' => ∃ (r1 : Bool) (r2 : Int), Q r1 r2 ∧ ev = .returned (.bool r1) ∧ I64 r2 ∧ St w0 H ([(b, .cells #[.int .i64 r2] 46 (0, 0))] ++ L) w' := by
  cases e with
  | none =>
    refine (as_nil _ w).mono ?_
    rintro ev w' ⟨rfl, rfl⟩
    exact ⟨_, _, hV.1 rfl, rfl, hr, hS⟩
  | some n =>
    obtain ⟨hn, hQ⟩ := hV.2 n rfl
    obtain ⟨arr, T, fz, g1, g2⟩ := hG
    have hg : w.cell? ⟨0, 0, none⟩ = some (.iface 104 (.agg #[.pointer (some ⟨1, 32, none⟩)])) := by
      simp only [World.cell?, hS.fits _ _ g1]; simpa using g2
    have hb := hS.own (b, .cells #[.int .i64 x] 46 (0, 0)) (by simp)
    have ht : w.cell? ⟨b, 0, none⟩ = some (.int .i64 x) := by simp only [World.cell?, hb]; simp
    have hf : w.frozen? ⟨b, 0, none⟩ = false := by simp [World.frozen?, hb]
    refine (as_hit n ⟨b, 0, none⟩ (.int .i64 x) w hg ht hf).mono ?_
    rintro ev w' ⟨rfl, rfl⟩
    refine ⟨true, n, hQ, rfl, hn, ?_⟩
    have h4 := (((hS.alloc (.cells #[.pointer (some ⟨b, 0, none⟩)] 72)).drop.alloc (.cells #[.pointer (some ⟨1, 72, none⟩), .pointer (some ⟨w.heap.size, 0, none⟩), .int .u64 150] 90)).drop.alloc (.cells #[.pointer (some ⟨1, 72, none⟩), .pointer (some ⟨w.heap.size, 0, none⟩), .int .u64 150] 90)).drop.alloc (.cells #[.int .i64 n] 46)
    have h5 := h4.drop
    have hb5 := h5.own (b, .cells #[.int .i64 x] 46 (0, 0)) (by simp)
    refine h5.write rfl rfl rfl (by simp) ?_ (fun q hq => RowKit.Below.heap_setCell _ _ _ q hq)
    simp only [World.setCell, Array.getElem?_modify, if_true]
    simp only at hb5
    rw [hb5]
    simp
end Go.Proofs.YtmdoicffgeihcaaGreatDoor
