import Derived.Test.YtlhkfkecoekoeaaGreatDoorManV
import Derived.Test.YtlhkfkecoekoeaaGreatDoorRec
import Derived.Test.YtlhkfkecoekoeaaGreatDoorFacts
import Derived.Test.YtlhkfkecoekoeaaGreatDoorShelf
import Derived.Lib.AppendIntMem
import Derived.Lib.ItoaMem
set_option linter.unusedVariables false
namespace Go.Proofs.YtlhkfkecoekoeaaGreatDoor
open Go Go.Vc
open Go.Sort in
theorem st_grown {w w' : World} (h : St w (fun k => w.heap[k]?) [] w') : ∃ q os', w' = Sort.grow (w.drewN q) os' := by
  refine ⟨w'.drawn - w.drawn, w'.heap.extract w.heap.size w'.heap.size, ?_⟩
  have hh : w'.heap = w.heap ++ w'.heap.extract w.heap.size w'.heap.size := by
    apply Array.ext_getElem?
    intro k
    rw [Array.getElem?_append]
    split
    · rename_i hk
      have := h.fits k w.heap[k] (by simp [hk])
      rw [this]; simp [hk]
    · rename_i hk
      rw [Array.getElem?_extract]
      have hs := h.size
      split
      · congr 1; omega
      · rw [Array.getElem?_eq_none]; omega
  have h1 := h.os; have h2 := h.tape; have h3 := h.output; have h4 := h.ahead
  cases w'; cases w
  simp only [Sort.grow, World.drewN] at *
  subst h1 h2 h3
  congr 1
  omega
theorem reps_pairs {H : View} {S : Val → Prop} : ∀ {xs : List Val} {cs : List Value}, cV.reps H cs xs → (∀ x ∈ xs, S x) → ∃ l : List { p : Value × Val // IsW H p.1 p.2 ∧ S p.2 }, l.map (·.1.1) = cs ∧ l.map (·.1.2) = xs
  | [], cs, h, _ => ⟨[], by rw [show cs = [] from h]; rfl, rfl⟩
  | x :: xs, cs, h, hs => by
    obtain ⟨a, b, e, h1, h2⟩ := h
    obtain ⟨u, rfl, hu⟩ := cV_one h1
    obtain ⟨l, l1, l2⟩ := reps_pairs h2 fun y hy => hs y (by simp [hy])
    exact ⟨⟨(u, x), hu, hs x (by simp)⟩ :: l, by simp [l1, e], by simp [l2]⟩
theorem pairs_reps {H : View} {S : Val → Prop} (l : List { p : Value × Val // IsW H p.1 p.2 ∧ S p.2 }) : cV.reps H (l.map (·.1.1)) (l.map (·.1.2)) := by
  induction l with
  | nil => exact rfl
  | cons a l ih => exact ⟨[a.1.1], l.map (·.1.1), rfl, cV_mk a.2.1, ih⟩
theorem S_appU {w0 : World} {H : View} {L : Seg} {w : World} {v : Value} {dst : List UInt8} {fp : Seg} {u : Nat} (h_3 : OwnSl H cB8 5 v dst fp) (hu : u ≤ 18446744073709551615) (hN : GlobN w0 H) (hS : St w0 H (fp ++ L) w) (hl : dst.length + 20 ≤ 1000000) :
    Calls Tryz.prog 282 #[v, .int .u64 u, .int .i64 10] w fun e w' => ∃ v1 fp1, e = .returned v1 ∧ OwnSl H cB8 5 v1 (dst ++ Lib.decDigits u) fp1 ∧ St w0 H (fp1 ++ L) w' := by
  refine enter Tryz.func282 rfl Tryz.ntmps282 rfl (lk_args_cons (d := 0) (v := v) rfl (lk_args_cons (d := 1) (v := .int .u64 u) rfl (lk_args_cons (d := 2) (v := .int .i64 10) rfl (lk_args_nil _)))) (WC.sr (WL.ma rfl rfl (WL.nx (WC.seq (WC.sr (WL.mv rfl rfl (WL.run hS rfl rfl rfl (ex_eql rfl rfl) (WL.nx ?_))))))))
  refine WC.cond rfl ?_ (fun hn => by simp at hn)
  intro _
  refine WC.seq (WC.sr (WL.mv rfl rfl (WL.run hS rfl rfl rfl (ex_lss rfl rfl) (WL.nx ?_))))
  have hlen : (Lib.decDigits u).length ≤ 20 := by
    rw [Lib.decDigits_length]
    by_cases h0 : u = 0
    · subst h0; rw [Lib.nDigits_small (by omega)]; omega
    · have := Lib.numDigits_eq u (by omega) (by omega); split at this <;> omega
  refine WC.cond rfl ?_ ?_
  · intro hc
    have hc : u < 100 := by have := of_decide_eq_true hc; omega
    refine WC.sr (WL.mv rfl rfl (WL.mv rfl rfl (WL.run hS rfl rfl rfl (ex_conv_int Tryz.underlying115 Tryz.underlying3 rfl) ?_)))
    have hw : IntKind.i64.wrap (u : Int) = u := IntWalk.i64_in _ ⟨by omega, by omega⟩
    rw [hw]
    refine WL.call rfl rfl rfl (enters0 (vs := [.int .i64 u]) (f := 244) (fun _ _ => by kernel_rfl) ⟨rfl, trivial⟩) (Tryz.internal_strconv_small u hc _) ?_
    rintro _ w ⟨rfl, rfl⟩
    refine ⟨_, rfl, ?_⟩
    refine WL.appends (xs := dst) (s := Lib.decDigits u) rfl Tryz.underlying71 Tryz.underlying9 Tryz.info5 rfl rfl rfl hS h_3 (by omega) (by unfold maxLen; omega) ?_
    clear hS
    intro v_18 w fp_19 h_20 hS
    refine WL.ma rfl rfl (WL.nx (WC.ret (WQ.pass nofun (WQ.pass nofun ?_))))
    exact leave1 rfl rfl ⟨v_18, fp_19, rfl, h_20, hS⟩
  · intro hc
    have hc : 100 ≤ u := by have := of_decide_eq_false hc; omega
    refine WC.skip (WQ.next ?_)
    have hnd : Lib.nDigits u ≤ 20 := by rw [Lib.decDigits_length] at hlen; exact hlen
    have hpos := Lib.nDigits_pos u
    have htab : Lib.TabIs Tryz.prog w "internal/strconv.uint64pow10" .u64 Lib.pow10Tab := by
      obtain ⟨_, ⟨T, fz, h2⟩, _⟩ := hN
      have h3 := hS.fits _ _ h2
      have hg : Tryz.prog.globalNamed "internal/strconv.uint64pow10" = some 4 := by kernel_rfl
      unfold Lib.TabIs World.var?
      rw [hg]
      simp only [Option.bind_some, h3]
    have hal : Tryz.prog.arrayLen 249 = 24 := by kernel_rfl
    have hsl : ∀ W, (Instr.sliceAt 249 (.pointer (some ⟨w.heap.size, 0, none⟩)) none (some (.int .i64 (Lib.nDigits u : Int))) none).run Tryz.prog W = .ok (.slice (some ⟨w.heap.size, 0, none⟩) (Lib.nDigits u) 24) W := fun W => by
      have hel : Tryz.prog.elem 249 = 5 := by kernel_rfl
      have hs5 : (sizeOf 5).run Tryz.prog W = .ok 1 W := by kernel_rfl
      rw [run_sliceAt_array_h W 249 ⟨w.heap.size, 0, none⟩ (by rw [hal, hel]; exact Tryz.underlying249) .i64 (Lib.nDigits u : Int) (by omega) (by rw [hal]; omega), hel, hs5, hal]
      simp [Result.andThen, slicedAt, Addr.add_lit]
    refine WC.sr ?_
    have hz : ∀ w, (zeroValue 249).run Tryz.prog w = .ok (.agg Lib.zeros24) w := fun w => by kernel_rfl
    refine WL.turn (v := .pointer (some ⟨w.heap.size, 0, none⟩)) (w' := w.alloc (.cells Lib.zeros24 249)) rfl rfl rfl (fun a ha => by simp [execOp, Instr.alloc, hz, newVar, newRow]; rfl) (WL.nx ?_)
    have hS1 : St w0 H (fp ++ L) (w.alloc (.cells Lib.zeros24 249)) := hS.of_below ⟨rfl, rfl, rfl, by simp, fun k hk => heap_alloc_old w _ hk⟩ hS.ahead
    refine WC.sr (WL.mv rfl rfl (WL.call rfl rfl rfl (enters0 (vs := [.int .u64 u]) (f := 245) (fun _ _ => by kernel_rfl) ⟨rfl, trivial⟩) (Tryz.internal_strconv_numDigits u (by omega) (by omega) _ (Lib.tabIs_alloc htab _)) ?_))
    rintro _ _ ⟨rfl, rfl⟩
    refine ⟨_, rfl, ?_⟩
    refine WL.ma rfl rfl (WL.nx (WC.sr (WL.mv rfl rfl ?_)))
    refine WL.run hS1 rfl rfl rfl (v := .slice (some ⟨w.heap.size, 0, none⟩) (Lib.nDigits u) 24) (fun W _ a ha => by
      have e1 : a.eval (.tmp 7) = .pointer (some ⟨w.heap.size, 0, none⟩) := ha.eval rfl
      have e2 : a.eval (.tmp 20) = .int .i64 (Lib.nDigits u : Int) := ha.eval rfl
      simp [execOp, e1, e2, hsl]) ?_
    refine WL.mv rfl rfl ?_
    have hH0 := Lib.holds_zero0 w 249 (Lib.nDigits u) (by omega)
    have hfmt := Tryz.internal_strconv_formatBase10 w.heap.size 0 24 u (Array.replicate (Lib.nDigits u) 0) (w.alloc (.cells Lib.zeros24 249)) hH0 (by rw [Array.size_replicate]; exact Lib.lt_pow_nDigits u) (by omega) (by rw [Array.size_replicate]; omega)
    rw [Array.size_replicate] at hfmt
    refine WL.call rfl rfl rfl (enters0 (vs := [.slice (some ⟨w.heap.size, 0, none⟩) (Lib.nDigits u) 24, .int .u64 u]) (f := 246) (fun _ _ => by kernel_rfl) ⟨rfl, rfl, trivial⟩) hfmt ?_
    rintro _ _ ⟨rfl, k, v', dk, rfl, hF⟩
    refine ⟨_, rfl, ?_⟩
    refine WL.nx ?_
    have hcells : ∀ j u', (Lib.byteCells (Lib.decDigits u))[j]? = some u' → ((Sort.putRow (fun (b : UInt8) => Value.int .u8 (b.toNat : Int)) (w.alloc (.cells Lib.zeros24 249)) w.heap.size 0 dk).drewN k).cell? ((⟨w.heap.size, 0, none⟩ : Addr).add j) = some u' := by
      intro j u' hj
      have hjl : j < (Lib.decDigits u).length := by
        have h5 := (List.getElem?_eq_some_iff.1 hj).1
        rwa [Lib.byteCells_length] at h5
      have e5 : (Lib.byteCells (Lib.decDigits u))[j]? = some (Value.int .u8 ((Lib.decDigits u)[j].toNat : Int)) := by simp [Lib.byteCells, hjl]
      rw [e5] at hj
      cases hj
      rw [Lib.row_is_numeral hF j hjl, Lib.add_plain, World.cell?_drewN]
      exact Sort.cell?_putRow (fun (b : UInt8) => Value.int .u8 (b.toNat : Int)) _ w.heap.size 0 _ dk hH0 (by rw [hF.size, Array.size_replicate]) j (by rw [hF.size]; rw [Lib.decDigits_length] at hjl; exact hjl)
    obtain ⟨os, eo⟩ := Lib.fin_at w (.cells Lib.zeros24 249) dk k 0
    have hS2 : St w0 H (fp ++ L) ((Sort.putRow (fun (b : UInt8) => Value.int .u8 (b.toNat : Int)) (w.alloc (.cells Lib.zeros24 249)) w.heap.size 0 dk).drewN k) := by
      rw [eo]; exact hS.of_below (Lib.below_grow w.heap.size w (Nat.le_refl _) k os) (Nat.le_trans hS.ahead (Nat.le_add_right _ _))
    generalize (Sort.putRow (fun (b : UInt8) => Value.int .u8 (b.toNat : Int)) (w.alloc (.cells Lib.zeros24 249)) w.heap.size 0 dk).drewN k = W2 at hcells hS2 ⊢
    have hbc : Lib.byteCells (Lib.decDigits u) = Lib.strCells ⟨(Lib.decDigits u).toArray⟩ := by simp [Lib.byteCells, Lib.strCells]
    have hsrc : Src cB8 H Tryz.prog W2 (.slice (some ⟨w.heap.size, 0, none⟩) (Lib.nDigits u) 24) (Lib.decDigits u) :=
      .inr ⟨⟨w.heap.size, 0, none⟩, _, 24, Lib.byteCells (Lib.decDigits u), by rw [Lib.decDigits_length], rfl, by rw [Lib.decDigits_length]; omega, by rw [hbc]; exact reps_b8.2 rfl, hcells⟩
    refine WC.sr (WL.mv rfl rfl (WL.mv rfl rfl ?_))
    refine WL.run hS2 rfl rfl rfl (v := .slice (some ⟨w.heap.size, 0, none⟩) (Lib.nDigits u) 24) (fun W _ a ha => by
      have e1 : a.eval (.tmp 7) = .pointer (some ⟨w.heap.size, 0, none⟩) := ha.eval rfl
      have e2 : a.eval (.tmp 25) = .int .i64 (Lib.nDigits u : Int) := ha.eval rfl
      simp [execOp, e1, e2, hsl]) ?_
    refine WL.append (c := cB8) (xs := dst) (ys := Lib.decDigits u) rfl Tryz.underlying71 Tryz.info5 rfl rfl rfl hS2 h_3 hsrc (by omega) (by unfold maxLen; omega) ?_
    intro v_18 w fp_19 h_20 hS
    refine WL.ma rfl rfl (WL.nx (WC.ret (WQ.pass nofun ?_)))
    exact leave1 rfl rfl ⟨v_18, fp_19, rfl, h_20, hS⟩
theorem S_appUint {w0 : World} {H : View} {L : Seg} {w : World} {v_2 : Value} {dst_1 : List UInt8} {fp_4 : Seg} {u_6 : Int} {base_8 : Int} {Q : (List UInt8) → Prop} (h_3 : OwnSl H cB8 5 v_2 dst_1 fp_4) (hr_7 : IntKind.u64.has u_6) (hr_9 : I64 base_8) (hN : GlobN w0 H) (hS : St w0 H (fp_4 ++ L) w) (hV : V_appUint dst_1 u_6 base_8 Q) :
    Calls Tryz.prog 282 #[v_2, .int .u64 u_6, .int .i64 base_8] w fun e w' => ∃ (r1 : List UInt8) (v1 : Value) (fp1 : Seg), Q r1 ∧ e = .returned (v1) ∧ OwnSl H cB8 5 v1 r1 fp1 ∧ St w0 H (fp1 ++ L) w' := by
  obtain ⟨rfl, hl, hQ⟩ := hV
  have hu := u64_has hr_7
  have e : (u_6.toNat : Int) = u_6 := by omega
  have := S_appU (u := u_6.toNat) h_3 (by omega) hN hS hl
  rw [e] at this
  refine this.mono ?_
  rintro e w' ⟨v1, fp1, rfl, h1, h2⟩
  exact ⟨_, v1, fp1, hQ, rfl, h1, h2⟩
theorem S_IndexByte {w0 : World} {H : View} {L : Seg} {w : World} {s_1 : Str} {c_2 : Int} {Q : Int → Prop} (hr_3 : IntKind.u8.has c_2) (hS : St w0 H (L) w) (hV : V_IndexByte s_1 c_2 Q) :
    Calls Tryz.prog 67 #[sv s_1, .int .u8 c_2] w fun e w' => ∃ (r1 : Int), Q r1 ∧ e = .returned (.int .i64 r1) ∧ I64 r1 ∧ St w0 H (L) w' := by
  refine (Tryz.strings_IndexByte ⟨s_1.toArray⟩ c_2 w).mono ?_
  rintro e w' ⟨rfl, rfl⟩
  have hle : ∀ (l : List UInt8) (c : UInt8), Lib.indexByte l c ≤ l.length := by
    intro l c
    induction l with
    | nil => show (-1 : Int) ≤ 0; decide
    | cons x l ih => simp only [Lib.indexByte, List.length_cons]; split <;> (try split) <;> omega
  have h1 := Lib.indexByte_ge s_1 c_2.toNat.toUInt8
  have h2 := hle s_1 c_2.toNat.toUInt8
  exact ⟨_, hV.2, rfl, ⟨by omega, by have := hV.1; omega⟩, hS⟩
theorem bytes_below (w : World) (e : TypeId) (s : ByteArray) : Go.RowKit.Below w.heap.size w (Lib.bytesWorld w e s) ∧ (Lib.bytesWorld w e s).drawn = w.drawn + 1 := by
  unfold Lib.bytesWorld World.freeze
  split
  · rename_i h; cases h
  · exact ⟨⟨rfl, rfl, rfl, by simp, fun k hk => by
      simp only [Array.getElem?_modify]
      rw [if_neg (by omega)]
      exact heap_alloc_old w.drew _ hk⟩, rfl⟩
theorem S_ParseUint {w0 : World} {H : View} {L : Seg} {w : World} {s_1 : Str} {base_2 : Int} {bitSize_4 : Int} {Q : Int → Bool → Prop} (hr_3 : I64 base_2) (hr_5 : I64 bitSize_4) (hN : GlobN w0 H) (hS : St w0 H (L) w) (hV : V_ParseUint s_1 base_2 bitSize_4 Q) :
    Calls Tryz.prog 194 #[sv s_1, .int .i64 base_2, .int .i64 bitSize_4] w fun e w' => ∃ (r1 : Int) (r2 : Bool) (u2 : Value), Q r1 r2 ∧ e = .returned (.tuple #[.int .u64 r1, u2]) ∧ IntKind.u64.has r1 ∧ AnyErr u2 r2 ∧ St w0 H (L) w' := by
  obtain ⟨rfl, rfl, hl, hV⟩ := hV
  have hsz : (⟨s_1.toArray⟩ : ByteArray).size = s_1.length := rfl
  cases hp : Lib.parseUintB 64 s_1 with
  | ok u =>
    rw [hp] at hV
    have hu : u ≤ 18446744073709551615 := by
      have hm : ∀ (l : List UInt8) (M acc u : Nat), acc ≤ M → Lib.parseUintM M acc l = .ok u → u ≤ M := by
        intro l
        induction l with
        | nil => intro M acc u ha h; simp only [Lib.parseUintM] at h; cases h; exact ha
        | cons c l ih =>
          intro M acc u ha h
          simp only [Lib.parseUintM] at h
          split at h
          · split at h
            · cases h
            · split at h
              · cases h
              · exact ih M _ u (by omega) h
          · cases h
      unfold Lib.parseUintB at hp
      split at hp
      · cases hp
      · exact hm _ _ 0 u (by omega) hp
    refine (Tryz.strconv_ParseUint_10_at64_ok ⟨s_1.toArray⟩ (by rw [hsz]; omega) u hp w).mono ?_
    rintro e w' ⟨rfl, hw⟩
    refine ⟨u, true, .nilIface, hV, rfl, has_u64 ⟨by omega, by omega⟩, .inl ⟨rfl, rfl⟩, ?_⟩
    rcases hw with rfl | rfl
    · exact hS
    · have hb := bytes_below w 5 ⟨s_1.toArray⟩
      exact hS.of_below hb.1 (by rw [hb.2]; have := hS.ahead; omega)
  | range =>
    rw [hp] at hV
    obtain ⟨h0, _, arr, T, fz, t, v, g1, g2⟩ := hN
    have hv : w.cell? ⟨3, 0, none⟩ = some (.iface t v) := by
      simp only [World.cell?, hS.fits _ _ g1]; simpa using g2
    refine (Tryz.strconv_ParseUint_10_at64_range ⟨s_1.toArray⟩ (by rw [hsz]; omega) hp _ w hv (.inr ⟨_, _, rfl⟩)).mono ?_
    rintro e w' ⟨N, rfl, _, _, hb⟩
    exact ⟨_, false, _, hV, rfl, has_u64 ⟨by omega, by omega⟩, .inr ⟨rfl, _, _, rfl⟩, hS.of_below hb (by rw [h0]; exact Nat.zero_le _)⟩
  | _ => rw [hp] at hV; exact hV.elim
end Go.Proofs.YtlhkfkecoekoeaaGreatDoor
