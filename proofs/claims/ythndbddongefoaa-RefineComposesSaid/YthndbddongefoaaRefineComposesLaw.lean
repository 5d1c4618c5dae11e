/- The law RefineComposes: called with any arguments it returns true, and each argument reads behind the call as it read before. No condition. -/
import Derived.Test.YthndbddongefoaaRows
import Derived.Test.YthndbddongefoaaWalks
import Derived.Test.YthndbddongefoaaRead
import Derived.Test.YthndbddongefoaaPlainA
import Derived.OpenShut
import Derived.ShutString
import Derived.ChangeOld
import Derived.Below
set_option linter.unusedVariables false
namespace Go.Proofs.Ythndbddongefoaa.refineComposes
open Go.ChangeShapes Go.WideShapes Go.ChangeAt Go.RowKit Go.Vc
open Go.ChangeMaps (open_string shut_string)
theorem own : ownKnob Try.prog.godebug = none := by kernel_rfl
theorem laidOut : laidOutB Try.prog = true := by kernel_rfl
set_option maxRecDepth 100000 in
theorem lifted (os : Os) (started : os.Started) (H : Type) (enc : TypeId × Value → H) :
    ReturnsInHanded {} Try.checked os 4 .any (Rows.refineComposesSpec.pre6 enc Try.prog Try.f4 Rows.refineComposesRow.domain false) (Rows.refineComposesSpec.post enc Try.prog Try.f4 false true false false) := by
  refine returnsInHanded_of_change_sized (C := Try.checked) own started (by kernel_rfl) Try.func4
    (ChangeSpec.witness6 (enc := enc) (C := Try.checked) false ⟨#[], #[.slice none 0 0, .slice none 0 0], []⟩ 8 (by kernel_rfl) (by kernel_rfl) (by kernel_rfl) (by kernel_rfl)) ?_
  intro W base args ds gs before hval0 hW hcnd hsz0 _
  have hval : ∀ (j : Nat) t v, Try.f4.params[j]? = some t → args[j]? = some v → Value.okWide Try.prog W .any base t v := hval0
  have hW' := hW
  obtain ⟨p, q, hA0, hV, rfl, hfz, hnd⟩ := hW
  have hA : DataW.TrodAll enc Try.prog W 0 (fun _ => true) true Try.f4.params.toList args.toList ds p := hA0
  have hsz : (DataW.weightsEach Try.prog (Try.f4.params.toList ++ Rows.refineComposesSpec.plain.varTypes Try.prog) (ds ++ gs)).all (· ≤ reachBytes) = true := hsz0
  rw [Try.params4] at hA hval hsz
  obtain ⟨v0, vs0, d0, ds0, p0, q0, hargs, rfl, rfl, h0, r0⟩ := trodAll_cons hA
  obtain ⟨v1, vs1, d1, ds1, p1, q1, rfl, rfl, rfl, h1, r1⟩ := trodAll_cons r0
  obtain ⟨rfl, rfl, rfl⟩ := trodAll_nil r1
  obtain rfl : args = #[v0, v1] := by cases args; simp_all
  obtain ⟨rfl, rfl⟩ := trodVars_none hV
  have k0 := h0
  have lt0 : ∀ x ∈ p0, x.block < W.heap.size := by obtain ⟨m, hm⟩ := k0; exact DataW.trod_lt m _ _ _ hm
  obtain ⟨a0, len0, cap0, rfl⟩ := okWide_slice Try.underlying22 (hval 0 22 v0 rfl rfl)
  obtain ⟨y0, hy0, rel0⟩ := arg_of_reads (reads_slice (reads_int Try.underlying3 (by kernel_rfl) (fun _ => wf_i64)) (by decide) Try.underlying22 (by kernel_rfl)) h0
  replace hy0 := sl_of_arg hy0
  have hb0 : y0.length ≤ 17592186043904 := by
    rcases rel0 with ⟨rfl, rfl⟩ | ⟨elems, sp, rfl, hl, _⟩
    · simp
    · have := sized_slice hsz (j := 0) (t := 22) (e := 3) rfl rfl Try.underlying22
      rw [show Try.prog.bytesOf 3 = 8 from by kernel_rfl] at this
      simp only [reachBytes] at this; omega
  have k1 := h1
  have lt1 : ∀ x ∈ p1, x.block < W.heap.size := by obtain ⟨m, hm⟩ := k1; exact DataW.trod_lt m _ _ _ hm
  obtain ⟨a1, len1, cap1, rfl⟩ := okWide_slice Try.underlying22 (hval 1 22 v1 rfl rfl)
  obtain ⟨y1, hy1, rel1⟩ := arg_of_reads (reads_slice (reads_int Try.underlying3 (by kernel_rfl) (fun _ => wf_i64)) (by decide) Try.underlying22 (by kernel_rfl)) h1
  replace hy1 := sl_of_arg hy1
  have hb1 : y1.length ≤ 17592186043904 := by
    rcases rel1 with ⟨rfl, rfl⟩ | ⟨elems, sp, rfl, hl, _⟩
    · simp
    · have := sized_slice hsz (j := 1) (t := 22) (e := 3) rfl rfl Try.underlying22
      rw [show Try.prog.bytesOf 3 = 8 from by kernel_rfl] at this
      simp only [reachBytes] at this; omega
  clear hA0 hval0
  have hgo := S_RefineComposes (Q := fun r => r = true) hy0 hy1 (St.refl W) (RefineComposes_ok (by omega) (by omega) rfl)
  refine hgo.mono fun e W' ⟨r, hr, he, hst⟩ => ?_
  subst hr
  subst he
  have bel := hst.below
  exact ⟨_, rfl, _, _, _, [], _, [], hW', trodAll_mk1 (shut_bool Try.underlying4 _), (trodAll_cons_mk (Below.trod laidOut (by kernel_rfl) (of_decide_eq_true (by kernel_rfl)) k0 bel lt0) (trodAll_cons_mk (Below.trod laidOut (by kernel_rfl) (of_decide_eq_true (by kernel_rfl)) k1 bel lt1) trodAll_mk0)), rfl, bel.frame _, fun h => by cases h⟩
theorem over : Rows.refineComposesRow.holds Try.pinned (OpenSpec.ofChange Rows.refineComposesSpec) :=
  OpenClaim.holds_of_wide 4 Try.f4 rfl rfl rfl rfl rfl rfl rfl ⟨rfl, rfl, rfl, rfl, rfl⟩ rfl rfl rfl rfl rfl (by kernel_rfl) Try.func4 (by kernel_rfl)
    (of_decide_eq_true (by kernel_rfl)) (by unfold Func.isWrapper; first | (rw [if_pos (by decide +kernel)]; kernel_rfl) | (rw [if_neg (by decide +kernel)]; exact ⟨rfl, rfl⟩))
    (fun os started H enc _ => lifted os started H enc)
theorem proved : Rows.RefineComposesSaid := over
end Go.Proofs.Ythndbddongefoaa.refineComposes
namespace Go.Proofs.Ythndbddongefoaa
theorem refineComposes_holds : Rows.RefineComposesSaid := refineComposes.proved
#print axioms refineComposes_holds
end Go.Proofs.Ythndbddongefoaa
