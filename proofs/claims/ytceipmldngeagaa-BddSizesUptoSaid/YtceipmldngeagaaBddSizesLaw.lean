/- The law BddSizes: called with any arguments it returns true, and each argument reads behind the call as it read before. Condition: the arguments are together of bulk at most 1048576 (the second form). -/
import Derived.Test.YtceipmldngeagaaRows
import Derived.Test.YtceipmldngeagaaWalks
import Derived.Test.YtceipmldngeagaaRead
import Derived.Test.YtceipmldngeagaaPlainB14
import Derived.Test.YtceipmldngeagaaBulk
import Derived.JoinedCond
import Derived.OpenShut
import Derived.ShutString
import Derived.ChangeOld
import Derived.Below
set_option linter.unusedVariables false
namespace Go.Proofs.Ytceipmldngeagaa.bddSizes
open Go.ChangeShapes Go.WideShapes Go.ChangeAt Go.RowKit Go.Vc
open Go.ChangeMaps (open_string shut_string)
theorem own : ownKnob Try.prog.godebug = none := by kernel_rfl
theorem laidOut : laidOutB Try.prog = true := by kernel_rfl
set_option maxRecDepth 100000 in
theorem lifted (os : Os) (started : os.Started) (H : Type) (enc : TypeId × Value → H) (F0 : Stop.Interp) :
    ReturnsInHanded {} Try.checked os 5 .any ((Rows.OpenSpec.upto Rows.bddSizesSpec).pre6 enc Try.prog Try.f5 Rows.bddSizesUptoRow.domain false) (((Rows.OpenSpec.upto Rows.bddSizesSpec).at F0).post enc Try.prog Try.f5 false true false false) := by
  refine returnsInHanded_of_cond (C := Try.checked) (s := (Rows.OpenSpec.upto Rows.bddSizesSpec)) (k := Rows.uptoSmall) rfl own started (by kernel_rfl) Try.func5
    (OpenSpec.witness (enc := enc) (C := Try.checked) (s := (Rows.OpenSpec.upto Rows.bddSizesSpec)) (k := Rows.uptoSmall) rfl false ⟨#[], #[.int .i64 0, .slice none 0 0], []⟩ 8 (by kernel_rfl) (by kernel_rfl) (by kernel_rfl)
      (x := ([.lit (.int .i64 0), .nil], [], [])) (by kernel_rfl) (by kernel_rfl) (by kernel_rfl)) ?_
  intro W base args ds gs before hval0 hW _ hk _
  have hval : ∀ (j : Nat) t v, Try.f5.params[j]? = some t → args[j]? = some v → Value.okWide Try.prog W .any base t v := hval0
  have hW' := hW
  obtain ⟨p, q, hA0, hV, rfl, hfz, hnd⟩ := hW
  have hA : DataW.TrodAll enc Try.prog W 0 (fun _ => true) true Try.f5.params.toList args.toList ds p := hA0
  rw [Try.params5] at hA hval
  obtain ⟨v0, vs0, d0, ds0, p0, q0, hargs, rfl, rfl, h0, r0⟩ := trodAll_cons hA
  obtain ⟨v1, vs1, d1, ds1, p1, q1, rfl, rfl, rfl, h1, r1⟩ := trodAll_cons r0
  obtain ⟨rfl, rfl, rfl⟩ := trodAll_nil r1
  obtain rfl : args = #[v0, v1] := by cases args; simp_all
  obtain ⟨rfl, rfl⟩ := trodVars_none hV
  have k0 := h0
  have lt0 : ∀ x ∈ p0, x.block < W.heap.size := by obtain ⟨m, hm⟩ := k0; exact DataW.trod_lt m _ _ _ hm
  obtain ⟨y0, rfl, rfl, rfl, w0⟩ := open_int Try.underlying3 (hval 0 3 v0 rfl rfl) h0
  have hy0 : I64 y0 := has_I64 (wf_i64 w0)
  have k1 := h1
  have lt1 : ∀ x ∈ p1, x.block < W.heap.size := by obtain ⟨m, hm⟩ := k1; exact DataW.trod_lt m _ _ _ hm
  obtain ⟨a1, len1, cap1, rfl⟩ := okWide_slice Try.underlying22 (hval 1 22 v1 rfl rfl)
  obtain ⟨y1, hy1, rel1⟩ := arg_of_reads (reads_slice (reads_struct Try.underlying30 (readsF_cons (reads_int Try.underlying3 (by kernel_rfl) (fun _ => wf_i64)) rfl (readsF_cons (reads_int Try.underlying3 (by kernel_rfl) (fun _ => wf_i64)) rfl (readsF_cons (reads_int Try.underlying3 (by kernel_rfl) (fun _ => wf_i64)) rfl (readsF_cons (reads_int Try.underlying3 (by kernel_rfl) (fun _ => wf_i64)) rfl (readsF_cons (reads_slice (reads_int Try.underlying3 (by kernel_rfl) (fun _ => wf_i64)) (by decide) Try.underlying27 (by kernel_rfl)) rfl (readsF_one (reads_slice (reads_bool Try.underlying4 (by kernel_rfl)) (by decide) Try.underlying28 (by kernel_rfl)) rfl)))))) (by kernel_rfl)) (by decide) Try.underlying22 (by kernel_rfl)) h1
  replace hy1 := sl_of_arg hy1
  have hb1 := bulk_script (d := d1) rel1 (by have : Rows.uptoBulkAll [_, d1] ≤ 1048576 := of_decide_eq_true hk; simp only [Rows.uptoBulkAll] at this; omega)
  clear hA0 hval0
  have hgo := S_BddSizes (Q := fun r => r = true) hy0 hy1 (St.refl W) (BddSizes_law hy0 hb1 rfl)
  refine hgo.mono fun e W' ⟨r, hr, he, hst⟩ => ?_
  subst hr
  subst he
  have bel := hst.below
  exact ⟨_, rfl, _, _, _, [], _, [], hW', trodAll_mk1 (shut_bool Try.underlying4 _), (trodAll_cons_mk (Below.trod laidOut (by kernel_rfl) (of_decide_eq_true (by kernel_rfl)) k0 bel lt0) (trodAll_cons_mk (Below.trod laidOut (by kernel_rfl) (of_decide_eq_true (by kernel_rfl)) k1 bel lt1) trodAll_mk0)), rfl, bel.frame _, fun h => by cases h⟩
theorem over : Rows.BddSizesUptoSaid :=
  OpenClaim.holds_of_cond 5 Try.f5 rfl rfl rfl rfl rfl rfl rfl ⟨rfl, rfl, rfl, rfl, rfl⟩ rfl rfl rfl rfl rfl (by kernel_rfl) Try.func5 (by kernel_rfl)
    (of_decide_eq_true (by kernel_rfl)) (by unfold Func.isWrapper; first | (rw [if_pos (by decide +kernel)]; kernel_rfl) | (rw [if_neg (by decide +kernel)]; exact ⟨rfl, rfl⟩))
    (fun os started H enc _ F0 => lifted os started H enc F0)
theorem proved : Rows.BddSizesUptoSaid := over
end Go.Proofs.Ytceipmldngeagaa.bddSizes
namespace Go.Proofs.Ytceipmldngeagaa
theorem bddSizes_holds : Rows.BddSizesUptoSaid := bddSizes.proved
#print axioms bddSizes_holds
end Go.Proofs.Ytceipmldngeagaa
