/- The law SatFollows: called with any arguments it returns true, and each argument reads behind the call as it read before. No condition. -/
import Derived.Test.YtdflojjpjklbfaaDoorRows
import Derived.Test.YtdflojjpjklbfaaDoorWalks
import Derived.Test.YtdflojjpjklbfaaDoorRead
import Derived.Test.YtdflojjpjklbfaaDoorPlainSD
import Derived.Test.YtdflojjpjklbfaaDoorCards
import Derived.Test.YtdflojjpjklbfaaDoorTie
import Derived.ChangeSame
import Derived.ChangeVars
import Derived.JoinedOf
import Derived.RowKit
import Derived.RowKitTokens
import Derived.LaidLaws
import Derived.LaidHandle
import Derived.Stop.Joined
import Derived.SevenTiedAt
import Derived.OpenShut
import Derived.ShutString
import Derived.ChangeOld
import Derived.Below
set_option linter.unusedVariables false
namespace Go.Proofs.YtdflojjpjklbfaaDoor.satFollows
open Go.ChangeShapes Go.WideShapes Go.ChangeAt Go.RowKit Go.Vc
open Go.ChangeMaps (open_string shut_string)
theorem own : ownKnob Tryd.prog.godebug = none := by kernel_rfl
theorem laidOut : laidOutB Tryd.prog = true := by kernel_rfl
theorem et : Tryd.prog.globalNamed "errors.errorType" = some 0 := by kernel_rfl
theorem rt : (Tryd.prog.cutTypes.find? (·.1 == "internal/reflectlite.rtype")).map (·.2) = some 68 := by kernel_rfl
theorem oneRow : ((List.range 111).filter fun t => Tryd.prog.rowNamed t [101, 114, 114, 111, 114]) = [26] := by kernel_rfl
theorem size : Tryd.prog.types.size = 111 := by kernel_rfl
/-- What the condition gives a walk: the one cell of the variable. -/
theorem glob_of_laid {W : World} (h : laidMetH Tryd.prog [("errors.errorType", Rows.laid_errors_errorType)] W) : Glob (hv W) := by
  have h' : laidMet Tryd.prog [] W ∧ handlesMet Tryd.prog [("errors.errorType", Rows.laid_errors_errorType)] W := h
  obtain ⟨name, u, ty, e1, e2, e3, e4, e5⟩ := h'.2 _ (List.mem_singleton.2 rfl)
  have en : name = [101, 114, 114, 111, 114] := (Option.some.inj e1).symm
  subst en
  obtain rfl := Option.some.inj (rt.symm.trans e2)
  have hm : ty ∈ (List.range 111).filter fun t => Tryd.prog.rowNamed t [101, 114, 114, 111, 114] := List.mem_filter.2 ⟨List.mem_range.2 (by rw [← size]; exact e3), e4⟩
  rw [oneRow] at hm
  obtain rfl := List.mem_singleton.1 hm
  have hh : typeHandle Tryd.prog 26 = .pointer (some ⟨1, 26, none⟩) := by kernel_rfl
  rw [hh] at e5
  have hc := World.var?_cell et e5 0
  have hc : W.cell? ⟨0, 0, none⟩ = some (.iface 68 (.agg #[.pointer (some ⟨1, 26, none⟩)])) := by simpa using hc
  exact glob_of_cell hc
/-- A world that meets the condition. -/
noncomputable def laidWorld (os : Os) : World :=
  let w0 := World.holding Tryd.prog os ⟨#[], #[], []⟩
  { w0 with heap := w0.heap.modify 0 fun
      | .cells _ t frozen => .cells #[.iface 68 (.agg #[.pointer (some ⟨1, 26, none⟩)])] t frozen
      | o => o }
theorem laidWorld_met (os : Os) (args : Array Value) : laidMetH Tryd.prog [("errors.errorType", Rows.laid_errors_errorType)] ((laidWorld os).forCall (fun _ _ => 0) ⟨#[], args, []⟩).memory := laidMetH_of_parts (laidMet_nil _ _) (by kernel_rfl)
set_option maxRecDepth 100000 in
theorem lifted (os : Os) (started : os.Started) (H : Type) (enc : TypeId × Value → H) :
    ReturnsInHanded {} Tryd.checked os 3 .any (fun w args => (Rows.satFollowsSpec.pre enc Tryd.prog Tryd.f3 [] false w args ∧ laidMetH Tryd.prog [("errors.errorType", Rows.laid_errors_errorType)] w) ∧ sizedMet enc Tryd.prog Tryd.f3 (OpenSpec.ofChange Rows.satFollowsSpec) false w args)
      (Rows.satFollowsSpec.post enc Tryd.prog Tryd.f3 false true false false) := by
  refine returnsInHanded_of_change_and (C := Tryd.checked) (X := fun w _ => laidMetH Tryd.prog [("errors.errorType", Rows.laid_errors_errorType)] w) (fun _ _ _ hh h => h.of_heap hh) own started (by kernel_rfl) Tryd.func3
    (ChangeSpec.witness_at (enc := enc) (C := Tryd.checked) (os := os) (X := fun w _ => laidMetH Tryd.prog [("errors.errorType", Rows.laid_errors_errorType)] w) false (laidWorld os) #[.int .i64 0, .slice none 0 0, .slice none 0 0] 8 rfl (by kernel_rfl) (by kernel_rfl) (by kernel_rfl) (by kernel_rfl) (by kernel_rfl) (laidWorld_met os _)) ?_
  intro W base args ds gs before hval0 hW hcnd hsz0 hL _
  have hval : ∀ (j : Nat) t v, Tryd.f3.params[j]? = some t → args[j]? = some v → Value.okWide Tryd.prog W .any base t v := hval0
  have hW' := hW
  obtain ⟨p, q, hA0, hV, rfl, hfz, hnd⟩ := hW
  have hA : DataW.TrodAll enc Tryd.prog W 0 (fun _ => true) true Tryd.f3.params.toList args.toList ds p := hA0
  have hsz : (DataW.weightsEach Tryd.prog (Tryd.f3.params.toList ++ Rows.satFollowsSpec.plain.varTypes Tryd.prog) (ds ++ gs)).all (· ≤ reachBytes) = true := hsz0
  rw [Tryd.params3] at hA hval hsz
  obtain ⟨v0, vs0, d0, ds0, p0, q0, hargs, rfl, rfl, h0, r0⟩ := trodAll_cons hA
  obtain ⟨v1, vs1, d1, ds1, p1, q1, rfl, rfl, rfl, h1, r1⟩ := trodAll_cons r0
  obtain ⟨v2, vs2, d2, ds2, p2, q2, rfl, rfl, rfl, h2, r2⟩ := trodAll_cons r1
  obtain ⟨rfl, rfl, rfl⟩ := trodAll_nil r2
  obtain rfl : args = #[v0, v1, v2] := by cases args; simp_all
  obtain ⟨rfl, rfl⟩ := trodVars_none hV
  have k0 := h0
  have lt0 : ∀ x ∈ p0, x.block < W.heap.size := by obtain ⟨m, hm⟩ := k0; exact DataW.trod_lt m _ _ _ hm
  obtain ⟨y0, rfl, rfl, rfl, w0⟩ := open_int Tryd.underlying3 (hval 0 3 v0 rfl rfl) h0
  have hy0 : I64 y0 := has_I64 (wf_i64 w0)
  have k1 := h1
  have lt1 : ∀ x ∈ p1, x.block < W.heap.size := by obtain ⟨m, hm⟩ := k1; exact DataW.trod_lt m _ _ _ hm
  obtain ⟨a1, len1, cap1, rfl⟩ := okWide_slice Tryd.underlying22 (hval 1 22 v1 rfl rfl)
  obtain ⟨y1, hy1, rel1⟩ := arg_of_reads (reads_slice (reads_slice (reads_int Tryd.underlying3 (by kernel_rfl) (fun _ => wf_i64)) (by decide) Tryd.underlying23 (by kernel_rfl)) (by decide) Tryd.underlying22 (by kernel_rfl)) h1
  replace hy1 := sl_of_arg hy1
  have hb1 := (sized_sl (b := 24) (sized_sl (b := 8) sized_triv Tryd.underlying23 (by kernel_rfl)) Tryd.underlying22 (by kernel_rfl)) _ _ rel1 (weights_le hsz (j := 1) (t := 22) rfl rfl)
  have k2 := h2
  have lt2 : ∀ x ∈ p2, x.block < W.heap.size := by obtain ⟨m, hm⟩ := k2; exact DataW.trod_lt m _ _ _ hm
  obtain ⟨a2, len2, cap2, rfl⟩ := okWide_slice Tryd.underlying23 (hval 2 23 v2 rfl rfl)
  obtain ⟨y2, hy2, rel2⟩ := arg_of_reads (reads_slice (reads_int Tryd.underlying3 (by kernel_rfl) (fun _ => wf_i64)) (by decide) Tryd.underlying23 (by kernel_rfl)) h2
  replace hy2 := sl_of_arg hy2
  have hb2 := (sized_sl (b := 8) sized_triv Tryd.underlying23 (by kernel_rfl)) _ _ rel2 (weights_le hsz (j := 2) (t := 23) rfl rfl)
  clear hA0 hval0
  have hgo := S_SatFollows (Q := fun r => r = true) hy0 hy1 hy2 (glob_of_laid hL) (St.refl W) (SatFollows_law hy0 hb1 hb2 rfl)
  refine hgo.mono fun e W' ⟨r, hr, he, hst⟩ => ?_
  subst hr
  subst he
  have bel := hst.below
  exact ⟨_, rfl, _, _, _, [], _, [], hW', trodAll_mk1 (shut_bool Tryd.underlying4 _), (trodAll_cons_mk (Below.trod laidOut (by kernel_rfl) (of_decide_eq_true (by kernel_rfl)) k0 bel lt0) (trodAll_cons_mk (Below.trod laidOut (by kernel_rfl) (of_decide_eq_true (by kernel_rfl)) k1 bel lt1) (trodAll_cons_mk (Below.trod laidOut (by kernel_rfl) (of_decide_eq_true (by kernel_rfl)) k2 bel lt2) trodAll_mk0))), rfl, bel.frame _, fun h => by cases h⟩
theorem over : Rows.satFollowsRow.holds Tryd.pinned (OpenSpec.ofChange Rows.satFollowsSpec) :=
  OpenClaim.holds_of_wide 3 Tryd.f3 rfl rfl rfl rfl rfl rfl rfl ⟨rfl, rfl, rfl, rfl, rfl⟩ rfl rfl rfl rfl rfl (by kernel_rfl) Tryd.func3 (by kernel_rfl)
    (of_decide_eq_true (by kernel_rfl)) (by unfold Func.isWrapper; first | (rw [if_pos (by decide +kernel)]; kernel_rfl) | (rw [if_neg (by decide +kernel)]; exact ⟨rfl, rfl⟩))
    (fun os started H enc _ => lifted os started H enc)
theorem card : Rows.SatFollowsCardSaid :=
  Claim7.holds_tied_plain_at .later [] [.handle] true (true, "cd884dd7f372086fec51e86dd1c594c3cd8a48a6c24db443d0e72d0e60a13e25") true
    over (fun _ h => by cases h) (by kernel_rfl) (fun _ h => by cases h) satFollows_row_tie rfl ⟨rfl, rfl⟩ (by kernel_rfl) rfl
    (fun f fn hf hfn => by
      obtain rfl : f = 3 := Option.some.inj ((show Tryd.prog.funcNamed "sextant/sextantlaw9.SatFollows" = some 3 by kernel_rfl).symm.trans hf) |>.symm
      obtain rfl : fn = Tryd.f3 := (Option.some.inj (Tryd.func3.symm.trans hfn)).symm
      exact ⟨by kernel_rfl, fun j t ht => by
        rw [Tryd.params3] at ht
        match j, ht with
        | 0, ht => obtain rfl : t = 3 := by simpa using ht.symm
                   exact (show Tryd.prog.wantsStandIn 3 = false by kernel_rfl)
        | 1, ht => obtain rfl : t = 22 := by simpa using ht.symm
                   exact (show Tryd.prog.wantsStandIn 22 = false by kernel_rfl)
        | 2, ht => obtain rfl : t = 23 := by simpa using ht.symm
                   exact (show Tryd.prog.wantsStandIn 23 = false by kernel_rfl)
        | j + 3, ht => simp at ht⟩)
    (by kernel_rfl)
theorem proved : Rows.SatFollowsCardSaid := card
end Go.Proofs.YtdflojjpjklbfaaDoor.satFollows
namespace Go.Proofs.YtdflojjpjklbfaaDoor
theorem satFollows_holds : Rows.SatFollowsCardSaid := satFollows.proved
#print axioms satFollows_holds
end Go.Proofs.YtdflojjpjklbfaaDoor
