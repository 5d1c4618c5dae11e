/- The law SatProofs: called with any arguments it returns true, and each argument reads behind the call as it read before. No condition. -/
import Derived.Test.YtdflojjpjklbfaaRows
import Derived.Test.YtdflojjpjklbfaaWalks
import Derived.Test.YtdflojjpjklbfaaRead
import Derived.Test.YtdflojjpjklbfaaPlainS4
import Derived.OpenShut
import Derived.ShutString
import Derived.ChangeOld
import Derived.Below
set_option linter.unusedVariables false
namespace Go.Proofs.Ytdflojjpjklbfaa.satProofs
open Go.ChangeShapes Go.WideShapes Go.ChangeAt Go.RowKit Go.Vc
open Go.ChangeMaps (open_string shut_string)
theorem own : ownKnob Try.prog.godebug = none := by kernel_rfl
theorem laidOut : laidOutB Try.prog = true := by kernel_rfl
set_option maxRecDepth 100000 in
theorem lifted (os : Os) (started : os.Started) (H : Type) (enc : TypeId × Value → H) :
    ReturnsInHanded {} Try.checked os 3 .any (Rows.satProofsSpec.pre6 enc Try.prog Try.f3 Rows.satProofsRow.domain false) (Rows.satProofsSpec.post enc Try.prog Try.f3 false true false false) := by
  refine returnsInHanded_of_change_sized (C := Try.checked) own started (by kernel_rfl) Try.func3
    (ChangeSpec.witness6 (enc := enc) (C := Try.checked) false ⟨#[], #[.int .i64 0, .slice none 0 0, .slice none 0 0], []⟩ 8 (by kernel_rfl) (by kernel_rfl) (by kernel_rfl) (by kernel_rfl)) ?_
  intro W base args ds gs before hval0 hW hcnd hsz0 _
  have hval : ∀ (j : Nat) t v, Try.f3.params[j]? = some t → args[j]? = some v → Value.okWide Try.prog W .any base t v := hval0
  have hW' := hW
  obtain ⟨p, q, hA0, hV, rfl, hfz, hnd⟩ := hW
  have hA : DataW.TrodAll enc Try.prog W 0 (fun _ => true) true Try.f3.params.toList args.toList ds p := hA0
  have hsz : (DataW.weightsEach Try.prog (Try.f3.params.toList ++ Rows.satProofsSpec.plain.varTypes Try.prog) (ds ++ gs)).all (· ≤ reachBytes) = true := hsz0
  rw [Try.params3] at hA hval hsz
  obtain ⟨v0, vs0, d0, ds0, p0, q0, hargs, rfl, rfl, h0, r0⟩ := trodAll_cons hA
  obtain ⟨v1, vs1, d1, ds1, p1, q1, rfl, rfl, rfl, h1, r1⟩ := trodAll_cons r0
  obtain ⟨v2, vs2, d2, ds2, p2, q2, rfl, rfl, rfl, h2, r2⟩ := trodAll_cons r1
  obtain ⟨rfl, rfl, rfl⟩ := trodAll_nil r2
  obtain rfl : args = #[v0, v1, v2] := by cases args; simp_all
  obtain ⟨rfl, rfl⟩ := trodVars_none hV
  have k0 := h0
  have lt0 : ∀ x ∈ p0, x.block < W.heap.size := by obtain ⟨m, hm⟩ := k0; exact DataW.trod_lt m _ _ _ hm
  obtain ⟨y0, rfl, rfl, rfl, w0⟩ := open_int Try.underlying3 (hval 0 3 v0 rfl rfl) h0
  have hy0 : I64 y0 := has_I64 (wf_i64 w0)
  have k1 := h1
  have lt1 : ∀ x ∈ p1, x.block < W.heap.size := by obtain ⟨m, hm⟩ := k1; exact DataW.trod_lt m _ _ _ hm
  obtain ⟨a1, len1, cap1, rfl⟩ := okWide_slice Try.underlying22 (hval 1 22 v1 rfl rfl)
  obtain ⟨y1, hy1, rel1⟩ := arg_of_reads (reads_slice (reads_slice (reads_int Try.underlying3 (by kernel_rfl) (fun _ => wf_i64)) (by decide) Try.underlying31 (by kernel_rfl)) (by decide) Try.underlying22 (by kernel_rfl)) h1
  replace hy1 := sl_of_arg hy1
  have hb1 := (sized_sl (b := 24) (sized_sl (b := 8) sized_triv Try.underlying31 (by kernel_rfl)) Try.underlying22 (by kernel_rfl)) _ _ rel1 (weights_le hsz (j := 1) (t := 22) rfl rfl)
  have k2 := h2
  have lt2 : ∀ x ∈ p2, x.block < W.heap.size := by obtain ⟨m, hm⟩ := k2; exact DataW.trod_lt m _ _ _ hm
  obtain ⟨a2, len2, cap2, rfl⟩ := okWide_slice Try.underlying23 (hval 2 23 v2 rfl rfl)
  obtain ⟨y2, hy2, rel2⟩ := arg_of_reads (reads_slice (reads_struct Try.underlying36 (readsF_cons (reads_bool Try.underlying4 (by kernel_rfl)) rfl (readsF_one (reads_slice (reads_int Try.underlying3 (by kernel_rfl) (fun _ => wf_i64)) (by decide) Try.underlying31 (by kernel_rfl)) rfl)) (by kernel_rfl)) (by decide) Try.underlying23 (by kernel_rfl)) h2
  replace hy2 := sl_of_arg hy2
  have hb2 := (sized_sl (b := 32) (sized_struct Try.underlying36 rfl (sizedF_cons sized_triv (sizedF_one (sized_sl (b := 8) sized_triv Try.underlying31 (by kernel_rfl))))) Try.underlying23 (by kernel_rfl)) _ _ rel2 (weights_le hsz (j := 2) (t := 23) rfl rfl)
  clear hA0 hval0
  have hgo := S_SatProofs (Q := fun r => r = true) hy0 hy1 hy2 (St.refl W) (SatProofs_law hy0 hb1 hb2 rfl)
  refine hgo.mono fun e W' ⟨r, hr, he, hst⟩ => ?_
  subst hr
  subst he
  have bel := hst.below
  exact ⟨_, rfl, _, _, _, [], _, [], hW', trodAll_mk1 (shut_bool Try.underlying4 _), (trodAll_cons_mk (Below.trod laidOut (by kernel_rfl) (of_decide_eq_true (by kernel_rfl)) k0 bel lt0) (trodAll_cons_mk (Below.trod laidOut (by kernel_rfl) (of_decide_eq_true (by kernel_rfl)) k1 bel lt1) (trodAll_cons_mk (Below.trod laidOut (by kernel_rfl) (of_decide_eq_true (by kernel_rfl)) k2 bel lt2) trodAll_mk0))), rfl, bel.frame _, fun h => by cases h⟩
theorem over : Rows.satProofsRow.holds Try.pinned (OpenSpec.ofChange Rows.satProofsSpec) :=
  OpenClaim.holds_of_wide 3 Try.f3 rfl rfl rfl rfl rfl rfl rfl ⟨rfl, rfl, rfl, rfl, rfl⟩ rfl rfl rfl rfl rfl (by kernel_rfl) Try.func3 (by kernel_rfl)
    (of_decide_eq_true (by kernel_rfl)) (by unfold Func.isWrapper; first | (rw [if_pos (by decide +kernel)]; kernel_rfl) | (rw [if_neg (by decide +kernel)]; exact ⟨rfl, rfl⟩))
    (fun os started H enc _ => lifted os started H enc)
theorem proved : Rows.SatProofsSaid := over
end Go.Proofs.Ytdflojjpjklbfaa.satProofs
namespace Go.Proofs.Ytdflojjpjklbfaa
theorem satProofs_holds : Rows.SatProofsSaid := satProofs.proved
#print axioms satProofs_holds
end Go.Proofs.Ytdflojjpjklbfaa
