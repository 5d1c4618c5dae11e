/- The law ValueMakes: called with any arguments it returns true, and each argument reads behind the call as it read before. Condition: the arguments and the package-level variables that the row lists are together of bulk at most 1048576 (the second form). Condition: the package-level variables that the row lists read, when the call begins, as the text of the program lays them (the card ties them). -/
import Derived.Test.YtlhkfkecoekoeaaGreatDoorRows
import Derived.Test.YtlhkfkecoekoeaaGreatDoorGK
import Derived.Test.YtlhkfkecoekoeaaGreatDoorCards
import Derived.Test.YtlhkfkecoekoeaaGreatDoorTie
import Derived.ChangeSame
import Derived.ChangeVars
import Derived.JoinedOf
import Derived.RowKit
import Derived.RowKitTokens
import Derived.LaidLaws
import Derived.LaidHandle
import Derived.Stop.Joined
import Derived.SevenTiedAt
import Derived.JoinedCond
import Derived.Deep.DeepHandedRow
import Derived.Deep.DeepWitnessRowRef
import Derived.Lib.LaidTab
import Derived.LaidMore
import Derived.Stop.LaidErr
import Derived.ProofKit
import Derived.OpenShut
import Derived.ShutString
import Derived.ChangeOld
import Derived.Below
set_option linter.unusedVariables false
namespace Go.Proofs.YtlhkfkecoekoeaaGreatDoor.valueMakes
open Go.ChangeShapes Go.WideShapes Go.ChangeAt Go.RowKit Go.Vc
open Go.ChangeMaps (open_string shut_string)
theorem own : ownKnob Tryz.prog.godebug = none := by kernel_rfl
theorem laidOut : laidOutB Tryz.prog = true := by kernel_rfl
theorem door_met (os : Os) (args : Array Value) : laidMetH Tryz.prog [("math/bits.deBruijn32tab", Rows.laid_math_bits_deBruijn32tab), ("math/bits.deBruijn64tab", Rows.laid_math_bits_deBruijn64tab), ("internal/strconv.uint64pow10", Rows.laid_internal_strconv_uint64pow10), ("strconv.ErrRange", Rows.laid_strconv_ErrRange), ("strconv.ErrSyntax", Rows.laid_strconv_ErrSyntax)] ((World.doorLaid Tryz.prog 600 os).forCall (fun _ _ => 0) ⟨#[], args, []⟩).memory :=
  laidMetH_of_parts3 (fuel := 8) (laidMet_of_run' 8 (by kernel_rfl) (by kernel_rfl)) (by kernel_rfl) (by kernel_rfl)
theorem pow_tab : (Rows.laid_internal_strconv_uint64pow10 : DataW Unit) = Lib.tabData .u64 Lib.pow10Tab := by kernel_rfl
theorem globN_of_laid {W : World} (h : laidMetH Tryz.prog [("math/bits.deBruijn32tab", Rows.laid_math_bits_deBruijn32tab), ("math/bits.deBruijn64tab", Rows.laid_math_bits_deBruijn64tab), ("internal/strconv.uint64pow10", Rows.laid_internal_strconv_uint64pow10), ("strconv.ErrRange", Rows.laid_strconv_ErrRange), ("strconv.ErrSyntax", Rows.laid_strconv_ErrSyntax)] W) : GlobN { W with drawn := 0 } (hv W) := by
  have hL : laidMet Tryz.prog [("math/bits.deBruijn32tab", Rows.laid_math_bits_deBruijn32tab), ("math/bits.deBruijn64tab", Rows.laid_math_bits_deBruijn64tab), ("internal/strconv.uint64pow10", Rows.laid_internal_strconv_uint64pow10), ("strconv.ErrRange", Rows.laid_strconv_ErrRange), ("strconv.ErrSyntax", Rows.laid_strconv_ErrSyntax)] W := h
  have h2 : laidMet Tryz.prog [("internal/strconv.uint64pow10", Rows.laid_internal_strconv_uint64pow10), ("strconv.ErrRange", Rows.laid_strconv_ErrRange), ("strconv.ErrSyntax", Rows.laid_strconv_ErrSyntax)] W := hL.tail.tail
  have h3 := h2.tail
  rw [pow_tab] at h2
  have hg : Tryz.prog.globalNamed "internal/strconv.uint64pow10" = some 4 := by kernel_rfl
  have hT := Lib.tabIs_of_head hg (by kernel_rfl) Tryz.underlying255 Tryz.underlying115 (by kernel_rfl) (by kernel_rfl) h2
  refine ⟨rfl, ?_, ?_⟩
  · unfold Lib.TabIs World.var? at hT
    rw [hg, Option.bind_some] at hT
    split at hT
    · rename_i cs T fz e
      simp only [Option.some.injEq] at hT
      exact ⟨T, fz, by show W.heap[4]? = _; rw [e, hT]⟩
    · cases hT
  · obtain ⟨ps, ⟨g0, t0, cs0, f0, p0, q0, hg0, ht0, hv0, hd0, _, e0⟩, _, hrows⟩ := h3
    have hgr : Tryz.prog.globalNamed "strconv.ErrRange" = some 3 := by kernel_rfl
    have htr : (Tryz.prog.globals[3]?).map (·.type) = some 27 := by kernel_rfl
    obtain rfl := Option.some.inj (hgr.symm.trans hg0)
    obtain rfl := Option.some.inj (htr.symm.trans ht0)
    obtain ⟨_, u, v, ec, _, _⟩ := iface_of_trod Tryz.underlying27 hd0
    unfold World.var? at hv0
    rw [hgr, Option.bind_some] at hv0
    split at hv0
    · rename_i cs T fz e
      simp only [Option.some.injEq] at hv0
      subst hv0
      refine ⟨cs, T, fz, u, v, e, ?_⟩
      rw [← Array.getElem?_toList, ec]; rfl
    · cases hv0
set_option maxRecDepth 100000 in
theorem lifted (os : Os) (started : os.Started) (H : Type) (enc : TypeId × Value → H) (F0 : Stop.Interp) :
    ReturnsInHanded {} Tryz.checked os 4 .any ((Rows.OpenSpec.upto Rows.valueMakesSpec).preRow enc Tryz.prog Tryz.f4 Rows.valueMakesUptoRow.domain false Rows.valueMakesUptoRow.laid) (((Rows.OpenSpec.upto Rows.valueMakesSpec).at F0).post enc Tryz.prog Tryz.f4 false true false false) := by
  refine returnsInHanded_of_row (C := Tryz.checked) (s := (Rows.OpenSpec.upto Rows.valueMakesSpec)) own started (by kernel_rfl) Tryz.func4
    (witness_row_atRef (enc := enc) (C := Tryz.checked) (s := (Rows.OpenSpec.upto Rows.valueMakesSpec)) false (World.doorLaid Tryz.prog 600 os) #[.slice none 0 0] rfl (by kernel_rfl) (by kernel_rfl) (by kernel_rfl)
      (OpenSpec.preRow_of_cond 8 (show DataW.whole enc Tryz.prog ((World.doorLaid Tryz.prog 600 os).forCall (fun _ _ => 0) ⟨#[], #[.slice none 0 0], []⟩).memory Tryz.f4.params.toList Rows.valueMakesSpec.vars false #[.slice none 0 0].toList 8 = some ([.nil], [], []) by kernel_rfl) (by kernel_rfl) (fun k hk => by cases hk; kernel_rfl) (by kernel_rfl) (door_met os _))) ?_
  intro W base args ds gs before hval0 hW _ hcond _ hL _ _
  have hk := hcond _ rfl
  have hval : ∀ (j : Nat) t v, Tryz.f4.params[j]? = some t → args[j]? = some v → Value.okWide Tryz.prog W .any base t v := hval0
  have hW' := hW
  obtain ⟨p, q, hA0, hV, rfl, hfz, hnd⟩ := hW
  have hA : DataW.TrodAll enc Tryz.prog W 0 (fun _ => true) true Tryz.f4.params.toList args.toList ds p := hA0
  rw [Tryz.params4] at hA hval
  obtain ⟨v0, vs0, d0, ds0, p0, q0, hargs, rfl, rfl, h0, r0⟩ := trodAll_cons hA
  obtain ⟨rfl, rfl, rfl⟩ := trodAll_nil r0
  obtain rfl : args = #[v0] := by cases args; simp_all
  obtain ⟨rfl, rfl⟩ := trodVars_none hV
  have k0 := h0
  have lt0 : ∀ x ∈ p0, x.block < W.heap.size := by obtain ⟨m, hm⟩ := k0; exact DataW.trod_lt m _ _ _ hm
  obtain ⟨a0, len0, cap0, rfl⟩ := okWide_slice Tryz.underlying41 (hval 0 41 v0 rfl rfl)
  obtain ⟨y0, hy0, rel0⟩ := QU (Ti (Rz Tryz.underlying45 (Mi (PV Tryz.underlying9 (by kernel_rfl)) rfl (Mi (WA Tryz.underlying3 (by kernel_rfl) (fun _ => AcW)) rfl (Us (PV Tryz.underlying9 (by kernel_rfl)) rfl))) (by kernel_rfl)) (by decide) Tryz.underlying41 (by kernel_rfl)) h0
  replace hy0 := XR hy0
  have hb0 := SE (d := d0) rel0 (by have : Rows.uptoBulkAll [d0] ≤ 1048576 := of_decide_eq_true hk; simp only [Rows.uptoBulkAll] at this; omega)
  clear hA0 hval0
  have hgo := Rl (Q := fun r => r = true) hy0 (globN_of_laid hL) (St.refl0 W) (Nx hb0 rfl)
  refine hgo.mono fun e W' ⟨r, hr, he, hst⟩ => ?_
  subst hr
  subst he
  have bel := St.below0 hst
  exact ⟨_, rfl, _, _, _, [], _, [], hW', trodAll_mk1 (shut_bool Tryz.underlying4 _), (trodAll_cons_mk (Below.trod laidOut (by kernel_rfl) (of_decide_eq_true (by kernel_rfl)) k0 bel lt0) trodAll_mk0), rfl, bel.frame _, fun h => by cases h⟩
theorem over : Rows.ValueMakesUptoSaid :=
  OpenClaim.holds_of_cond 4 Tryz.f4 rfl rfl rfl rfl rfl rfl rfl ⟨rfl, rfl, rfl, rfl, rfl⟩ rfl rfl rfl rfl rfl (by kernel_rfl) Tryz.func4 (by kernel_rfl)
    (of_decide_eq_true (by kernel_rfl)) (by unfold Func.isWrapper; first | (rw [if_pos (by decide +kernel)]; kernel_rfl) | (rw [if_neg (by decide +kernel)]; exact ⟨rfl, rfl⟩))
    (fun os started H enc _ F0 => by rw [OpenClaim.pre_eq_preRow]; exact lifted os started H enc F0)
theorem card : Rows.ValueMakesUptoCardSaid :=
  Claim7.holds_tied_plain_at .later [] [.data, .data, .data, .sentinel, .sentinel] true (true, "3c86782c12c0e756bdfc474b6da608da4cfd7ed87bdc3a9b9bb6db0dc328182d") true
    over (fun _ h => by cases h) (by kernel_rfl) (fun _ h => by cases h) valueMakesUpto_row_tie rfl ⟨rfl, rfl⟩ (by kernel_rfl) rfl
    (fun f fn hf hfn => by
      obtain rfl : f = 4 := Option.some.inj ((show Tryz.prog.funcNamed "sextant/sextantlaw1.ValueMakes" = some 4 by kernel_rfl).symm.trans hf) |>.symm
      obtain rfl : fn = Tryz.f4 := (Option.some.inj (Tryz.func4.symm.trans hfn)).symm
      exact ⟨by kernel_rfl, fun j t ht => by
        rw [Tryz.params4] at ht
        match j, ht with
        | 0, ht => obtain rfl : t = 41 := by simpa using ht.symm
                   exact (show Tryz.prog.wantsStandIn 41 = false by kernel_rfl)
        | j + 1, ht => simp at ht⟩)
    (by kernel_rfl)
theorem proved : Rows.ValueMakesUptoCardSaid := card
end Go.Proofs.YtlhkfkecoekoeaaGreatDoor.valueMakes
namespace Go.Proofs.YtlhkfkecoekoeaaGreatDoor
theorem valueMakes_holds : Rows.ValueMakesUptoCardSaid := valueMakes.proved
#print axioms valueMakes_holds
end Go.Proofs.YtlhkfkecoekoeaaGreatDoor
