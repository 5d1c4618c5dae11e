import Derived.Test.YtlhkfkecoekoeaaGreatDoorManV
import Derived.Test.YtlhkfkecoekoeaaGreatDoorRec
import Derived.Test.YtlhkfkecoekoeaaGreatDoorFacts
import Derived.Test.YtlhkfkecoekoeaaGreatDoorShelf
import Derived.Lib.AppendIntMem
import Derived.Lib.ItoaMem
set_option linter.unusedVariables false
namespace Go.Proofs.YtlhkfkecoekoeaaGreatDoor
open Go Go.Vc
open Go.Sort in
theorem st_grown {w w' : World} (h : St w (fun k => w.heap[k]?) [] w') : ∃ q os', w' = Sort.grow (w.drewN q) os' := by
  refine ⟨w'.drawn - w.drawn, w'.heap.extract w.heap.size w'.heap.size, ?_⟩
  have hh : w'.heap = w.heap ++ w'.heap.extract w.heap.size w'.heap.size := by
    apply Array.ext_getElem?
    intro k
    rw [Array.getElem?_append]
    split
    · rename_i hk
      have := h.fits k w.heap[k] (by simp [hk])
      rw [this]; simp [hk]
    · rename_i hk
      rw [Array.getElem?_extract]
      have hs := h.size
      split
      · congr 1; omega
      · rw [Array.getElem?_eq_none]; omega
  have h1 := h.os; have h2 := h.tape; have h3 := h.output; have h4 := h.ahead
  cases w'; cases w
  simp only [Sort.grow, World.drewN] at *
  subst h1 h2 h3
  congr 1
  omega
/-- The cells of an owned slice of values, each with what it is. -/
theorem reps_pairs {H : View} {S : Val → Prop} : ∀ {xs : List Val} {cs : List Value}, cV.reps H cs xs → (∀ x ∈ xs, S x) → ∃ l : List { p : Value × Val // IsW H p.1 p.2 ∧ S p.2 }, l.map (·.1.1) = cs ∧ l.map (·.1.2) = xs
  | [], cs, h, _ => ⟨[], by rw [show cs = [] from h]; rfl, rfl⟩
  | x :: xs, cs, h, hs => by
    obtain ⟨a, b, e, h1, h2⟩ := h
    obtain ⟨u, rfl, hu⟩ := cV_one h1
    obtain ⟨l, l1, l2⟩ := reps_pairs h2 fun y hy => hs y (by simp [hy])
    exact ⟨⟨(u, x), hu, hs x (by simp)⟩ :: l, by simp [l1, e], by simp [l2]⟩
theorem pairs_reps {H : View} {S : Val → Prop} (l : List { p : Value × Val // IsW H p.1 p.2 ∧ S p.2 }) : cV.reps H (l.map (·.1.1)) (l.map (·.1.2)) := by
  induction l with
  | nil => exact rfl
  | cons a l ih => exact ⟨[a.1.1], l.map (·.1.1), rfl, cV_mk a.2.1, ih⟩
theorem S_IndexByte {w0 : World} {H : View} {L : Seg} {w : World} {s_1 : Str} {c_2 : Int} {Q : Int → Prop} (hr_3 : IntKind.u8.has c_2) (hS : St w0 H (L) w) (hV : V_IndexByte s_1 c_2 Q) :
    Calls Tryz.prog 67 #[sv s_1, .int .u8 c_2] w fun e w' => ∃ (r1 : Int), Q r1 ∧ e = .returned (.int .i64 r1) ∧ I64 r1 ∧ St w0 H (L) w' := by
  refine (Tryz.strings_IndexByte ⟨s_1.toArray⟩ c_2 w).mono ?_
  rintro e w' ⟨rfl, rfl⟩
  have hle : ∀ (l : List UInt8) (c : UInt8), Lib.indexByte l c ≤ l.length := by
    intro l c
    induction l with
    | nil => show (-1 : Int) ≤ 0; decide
    | cons x l ih => simp only [Lib.indexByte, List.length_cons]; split <;> (try split) <;> omega
  have h1 := Lib.indexByte_ge s_1 c_2.toNat.toUInt8
  have h2 := hle s_1 c_2.toNat.toUInt8
  exact ⟨_, hV.2, rfl, ⟨by omega, by have := hV.1; omega⟩, hS⟩
theorem bytes_below (w : World) (e : TypeId) (s : ByteArray) : Go.RowKit.Below w.heap.size w (Lib.bytesWorld w e s) ∧ (Lib.bytesWorld w e s).drawn = w.drawn + 1 := by
  unfold Lib.bytesWorld World.freeze
  split
  · rename_i h; cases h
  · exact ⟨⟨rfl, rfl, rfl, by simp, fun k hk => by
      simp only [Array.getElem?_modify]
      rw [if_neg (by omega)]
      exact heap_alloc_old w.drew _ hk⟩, rfl⟩

theorem S_ParseUint {w0 : World} {H : View} {L : Seg} {w : World} {s_1 : Str} {base_2 : Int} {bitSize_4 : Int} {Q : Int → Bool → Prop} (hr_3 : I64 base_2) (hr_5 : I64 bitSize_4) (hN : GlobN w0 H) (hS : St w0 H (L) w) (hV : V_ParseUint s_1 base_2 bitSize_4 Q) :
    Calls Tryz.prog 194 #[sv s_1, .int .i64 base_2, .int .i64 bitSize_4] w fun e w' => ∃ (r1 : Int) (r2 : Bool) (u2 : Value), Q r1 r2 ∧ e = .returned (.tuple #[.int .u64 r1, u2]) ∧ IntKind.u64.has r1 ∧ AnyErr u2 r2 ∧ St w0 H (L) w' := by
  obtain ⟨rfl, rfl, hl, hV⟩ := hV
  have hsz : (⟨s_1.toArray⟩ : ByteArray).size = s_1.length := rfl
  cases hp : Lib.parseUintB 64 s_1 with
  | ok u =>
    rw [hp] at hV
    have hu : u ≤ 18446744073709551615 := by
      have hm : ∀ (l : List UInt8) (M acc u : Nat), acc ≤ M → Lib.parseUintM M acc l = .ok u → u ≤ M := by
        intro l
        induction l with
        | nil => intro M acc u ha h; simp only [Lib.parseUintM] at h; cases h; exact ha
        | cons c l ih =>
          intro M acc u ha h
          simp only [Lib.parseUintM] at h
          split at h
          · split at h
            · cases h
            · split at h
              · cases h
              · exact ih M _ u (by omega) h
          · cases h
      unfold Lib.parseUintB at hp
      split at hp
      · cases hp
      · exact hm _ _ 0 u (by omega) hp
    refine (Tryz.strconv_ParseUint_10_at64_ok ⟨s_1.toArray⟩ (by rw [hsz]; omega) u hp w).mono ?_
    rintro e w' ⟨rfl, hw⟩
    refine ⟨u, true, .nilIface, hV, rfl, has_u64 ⟨by omega, by omega⟩, .inl ⟨rfl, rfl⟩, ?_⟩
    rcases hw with rfl | rfl
    · exact hS
    · have hb := bytes_below w 5 ⟨s_1.toArray⟩
      exact hS.of_below hb.1 (by rw [hb.2]; have := hS.ahead; omega)
  | range =>
    rw [hp] at hV
    obtain ⟨h0, _, arr, T, fz, t, v, g1, g2⟩ := hN
    have hv : w.cell? ⟨3, 0, none⟩ = some (.iface t v) := by
      simp only [World.cell?, hS.fits _ _ g1]; simpa using g2
    refine (Tryz.strconv_ParseUint_10_at64_range ⟨s_1.toArray⟩ (by rw [hsz]; omega) hp _ w hv (.inr ⟨_, _, rfl⟩)).mono ?_
    rintro e w' ⟨N, rfl, _, _, hb⟩
    exact ⟨_, false, _, hV, rfl, has_u64 ⟨by omega, by omega⟩, .inr ⟨rfl, _, _, rfl⟩, hS.of_below hb (by rw [h0]; exact Nat.zero_le _)⟩
  | _ => rw [hp] at hV; exact hV.elim

end Go.Proofs.YtlhkfkecoekoeaaGreatDoor
