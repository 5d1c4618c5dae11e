/- The law SatShown: called with any arguments it returns true, and each argument reads behind the call as it read before. No condition. -/
import Derived.Test.YtdflojjpjklbfaaRows
import Derived.Test.YtdflojjpjklbfaaWalks
import Derived.Test.YtdflojjpjklbfaaRead
import Derived.Test.YtdflojjpjklbfaaPlainS4
import Derived.OpenShut
import Derived.ShutString
import Derived.ChangeOld
import Derived.Below
set_option linter.unusedVariables false
namespace Go.Proofs.Ytdflojjpjklbfaa.satShown
open Go.ChangeShapes Go.WideShapes Go.ChangeAt Go.RowKit Go.Vc
open Go.ChangeMaps (open_string shut_string)
theorem own : ownKnob Try.prog.godebug = none := by kernel_rfl
theorem laidOut : laidOutB Try.prog = true := by kernel_rfl
set_option maxRecDepth 100000 in
theorem lifted (os : Os) (started : os.Started) (H : Type) (enc : TypeId × Value → H) :
    ReturnsInHanded {} Try.checked os 4 .any (Rows.satShownSpec.pre6 enc Try.prog Try.f4 Rows.satShownRow.domain false) (Rows.satShownSpec.post enc Try.prog Try.f4 false true false false) := by
  refine returnsInHanded_of_change_sized (C := Try.checked) own started (by kernel_rfl) Try.func4
    (ChangeSpec.witness6 (enc := enc) (C := Try.checked) false ⟨#[], #[.int .i64 0, .slice none 0 0, .slice none 0 0, .slice none 0 0], []⟩ 8 (by kernel_rfl) (by kernel_rfl) (by kernel_rfl) (by kernel_rfl)) ?_
  intro W base args ds gs before hval0 hW hcnd hsz0 _
  have hval : ∀ (j : Nat) t v, Try.f4.params[j]? = some t → args[j]? = some v → Value.okWide Try.prog W .any base t v := hval0
  have hW' := hW
  obtain ⟨p, q, hA0, hV, rfl, hfz, hnd⟩ := hW
  have hA : DataW.TrodAll enc Try.prog W 0 (fun _ => true) true Try.f4.params.toList args.toList ds p := hA0
  have hsz : (DataW.weightsEach Try.prog (Try.f4.params.toList ++ Rows.satShownSpec.plain.varTypes Try.prog) (ds ++ gs)).all (· ≤ reachBytes) = true := hsz0
  rw [Try.params4] at hA hval hsz
  obtain ⟨v0, vs0, d0, ds0, p0, q0, hargs, rfl, rfl, h0, r0⟩ := trodAll_cons hA
  obtain ⟨v1, vs1, d1, ds1, p1, q1, rfl, rfl, rfl, h1, r1⟩ := trodAll_cons r0
  obtain ⟨v2, vs2, d2, ds2, p2, q2, rfl, rfl, rfl, h2, r2⟩ := trodAll_cons r1
  obtain ⟨v3, vs3, d3, ds3, p3, q3, rfl, rfl, rfl, h3, r3⟩ := trodAll_cons r2
  obtain ⟨rfl, rfl, rfl⟩ := trodAll_nil r3
  obtain rfl : args = #[v0, v1, v2, v3] := by cases args; simp_all
  obtain ⟨rfl, rfl⟩ := trodVars_none hV
  have k0 := h0
  have lt0 : ∀ x ∈ p0, x.block < W.heap.size := by obtain ⟨m, hm⟩ := k0; exact DataW.trod_lt m _ _ _ hm
  obtain ⟨y0, rfl, rfl, rfl, w0⟩ := open_int Try.underlying3 (hval 0 3 v0 rfl rfl) h0
  have hy0 : I64 y0 := has_I64 (wf_i64 w0)
  have k1 := h1
  have lt1 : ∀ x ∈ p1, x.block < W.heap.size := by obtain ⟨m, hm⟩ := k1; exact DataW.trod_lt m _ _ _ hm
  obtain ⟨a1, len1, cap1, rfl⟩ := okWide_slice Try.underlying22 (hval 1 22 v1 rfl rfl)
  obtain ⟨y1, hy1, rel1⟩ := arg_of_reads (reads_slice (reads_slice (reads_int Try.underlying3 (by kernel_rfl) (fun _ => wf_i64)) (by decide) Try.underlying31 (by kernel_rfl)) (by decide) Try.underlying22 (by kernel_rfl)) h1
  replace hy1 := sl_of_arg hy1
  have hb1 := (sized_sl (b := 24) (sized_sl (b := 8) sized_triv Try.underlying31 (by kernel_rfl)) Try.underlying22 (by kernel_rfl)) _ _ rel1 (weights_le hsz (j := 1) (t := 22) rfl rfl)
  have k2 := h2
  have lt2 : ∀ x ∈ p2, x.block < W.heap.size := by obtain ⟨m, hm⟩ := k2; exact DataW.trod_lt m _ _ _ hm
  obtain ⟨a2, len2, cap2, rfl⟩ := okWide_slice Try.underlying23 (hval 2 23 v2 rfl rfl)
  obtain ⟨y2, hy2, rel2⟩ := arg_of_reads (reads_slice (reads_struct Try.underlying36 (readsF_cons (reads_bool Try.underlying4 (by kernel_rfl)) rfl (readsF_one (reads_slice (reads_int Try.underlying3 (by kernel_rfl) (fun _ => wf_i64)) (by decide) Try.underlying31 (by kernel_rfl)) rfl)) (by kernel_rfl)) (by decide) Try.underlying23 (by kernel_rfl)) h2
  replace hy2 := sl_of_arg hy2
  have hb2 := (sized_sl (b := 32) (sized_struct Try.underlying36 rfl (sizedF_cons sized_triv (sizedF_one (sized_sl (b := 8) sized_triv Try.underlying31 (by kernel_rfl))))) Try.underlying23 (by kernel_rfl)) _ _ rel2 (weights_le hsz (j := 2) (t := 23) rfl rfl)
  have k3 := h3
  have lt3 : ∀ x ∈ p3, x.block < W.heap.size := by obtain ⟨m, hm⟩ := k3; exact DataW.trod_lt m _ _ _ hm
  obtain ⟨a3, len3, cap3, rfl⟩ := okWide_slice Try.underlying27 (hval 3 27 v3 rfl rfl)
  obtain ⟨y3, hy3, rel3⟩ := arg_of_reads (reads_slice (reads_bool Try.underlying4 (by kernel_rfl)) (by decide) Try.underlying27 (by kernel_rfl)) h3
  replace hy3 := sl_of_arg hy3
  have hb3 := (sized_sl (b := 1) sized_triv Try.underlying27 (by kernel_rfl)) _ _ rel3 (weights_le hsz (j := 3) (t := 27) rfl rfl)
  clear hA0 hval0
  have hgo := S_SatShown (Q := fun r => r = true) hy0 hy1 hy2 hy3 (St.refl W) (SatShown_law hy0 hb1 hb2 hb3 rfl)
  refine hgo.mono fun e W' ⟨r, hr, he, hst⟩ => ?_
  subst hr
  subst he
  have bel := hst.below
  exact ⟨_, rfl, _, _, _, [], _, [], hW', trodAll_mk1 (shut_bool Try.underlying4 _), (trodAll_cons_mk (Below.trod laidOut (by kernel_rfl) (of_decide_eq_true (by kernel_rfl)) k0 bel lt0) (trodAll_cons_mk (Below.trod laidOut (by kernel_rfl) (of_decide_eq_true (by kernel_rfl)) k1 bel lt1) (trodAll_cons_mk (Below.trod laidOut (by kernel_rfl) (of_decide_eq_true (by kernel_rfl)) k2 bel lt2) (trodAll_cons_mk (Below.trod laidOut (by kernel_rfl) (of_decide_eq_true (by kernel_rfl)) k3 bel lt3) trodAll_mk0)))), rfl, bel.frame _, fun h => by cases h⟩
theorem over : Rows.satShownRow.holds Try.pinned (OpenSpec.ofChange Rows.satShownSpec) :=
  OpenClaim.holds_of_wide 4 Try.f4 rfl rfl rfl rfl rfl rfl rfl ⟨rfl, rfl, rfl, rfl, rfl⟩ rfl rfl rfl rfl rfl (by kernel_rfl) Try.func4 (by kernel_rfl)
    (of_decide_eq_true (by kernel_rfl)) (by unfold Func.isWrapper; first | (rw [if_pos (by decide +kernel)]; kernel_rfl) | (rw [if_neg (by decide +kernel)]; exact ⟨rfl, rfl⟩))
    (fun os started H enc _ => lifted os started H enc)
theorem proved : Rows.SatShownSaid := over
end Go.Proofs.Ytdflojjpjklbfaa.satShown
namespace Go.Proofs.Ytdflojjpjklbfaa
theorem satShown_holds : Rows.SatShownSaid := satShown.proved
#print axioms satShown_holds
end Go.Proofs.Ytdflojjpjklbfaa
