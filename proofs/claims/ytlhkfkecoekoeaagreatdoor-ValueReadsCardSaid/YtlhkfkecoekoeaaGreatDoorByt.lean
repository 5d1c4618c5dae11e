/- Bytes: a slice of bytes as a list of them; append of a text; a text out of bytes; numbers of other kinds. -/
import Derived.Test.YtlhkfkecoekoeaaGreatDoorPan
import Derived.Lib.AppendStr
set_option linter.unusedVariables false
set_option linter.unusedSimpArgs false
namespace Go.Vc
open Go Go.Lib
def cB8 : Codec UInt8 where
  size := 1
  rep := fun _ cs x => cs = [.int .u8 x.toNat]
  len := fun h => by rw [h]; rfl
  mono := fun _ h => h
  one := fun h u hu => by rw [h] at hu; rw [List.mem_singleton.1 hu]; rfl
def u8 (i : Int) : UInt8 := UInt8.ofNat i.toNat
theorem u8_has {i : Int} (h : IntKind.u8.has i) : 0 ≤ i ∧ i ≤ 255 := by
  simp only [IntKind.has, IntKind.min, IntKind.max, IntKind.bits, IntKind.signed] at h; simp at h; omega
theorem has_u8 {i : Int} (h : 0 ≤ i ∧ i ≤ 255) : IntKind.u8.has i := by
  simp only [IntKind.has, IntKind.min, IntKind.max, IntKind.bits, IntKind.signed]; simp; omega
theorem u8_nat {i : Int} (h : IntKind.u8.has i) : ((u8 i).toNat : Int) = i := by
  have := u8_has h
  unfold u8
  rw [UInt8.toNat_ofNat']
  omega
theorem cB8_mk {H : View} {i : Int} (h : IntKind.u8.has i) : cB8.rep H [.int .u8 i] (u8 i) := by
  show [_] = [_]; rw [u8_nat h]
theorem reps_b8 {H : View} : ∀ {s : Str} {cs : List Value}, cB8.reps H cs s ↔ cs = strCells ⟨s.toArray⟩
  | [], cs => by simp [Codec.reps, strCells]
  | x :: s, cs => by
    constructor
    · rintro ⟨a, b, e, h1, h2⟩
      have h2 := (reps_b8 (H := H)).1 h2
      rw [e, h2, show a = _ from h1]; simp [strCells]
    · intro e
      refine ⟨[.int .u8 x.toNat], strCells ⟨s.toArray⟩, by rw [e]; simp [strCells], rfl, (reps_b8 (H := H)).2 rfl⟩
section app
variable {P : Program} {w0 w : World} {H : View} {L fp : Seg}
theorem run_append_s {t u ty e : TypeId} {i : TypeInfo} {z : Value} (ht : P.underlying t = some (.slice e)) (hu : P.underlying u = some .string) (hi : P.info? e = some i) (hz : i.zero = some z) (hsz : i.size = 1) (hzs : z.cells.size = 1)
    {v : Value} {xs s : Str} (hw : St w0 H (fp ++ L) w) (hs : OwnSl H cB8 e v xs fp) (hroom : (xs.length + s.length) * i.bytes ≤ 140737488355328) (hmax : xs.length + s.length ≤ maxLen) :
    ∃ v' w' fp', (Builtin.append_ #[t, u] ty #[v, sv s]).run P w = .ok v' w' ∧ OwnSl H cB8 e v' (xs ++ s) fp' ∧ St w0 H (fp' ++ L) w' := by
  have hss : (⟨s.toArray⟩ : ByteArray).size = s.length := rfl
  have hsc : (strCells ⟨s.toArray⟩).length = s.length := by rw [strCells_length]; rfl
  have h63 : ((xs.length + s.length : Nat) : Int) ≤ 9223372036854775807 := by unfold maxLen at hmax; omega
  have hns : cB8.reps H (strCells ⟨s.toArray⟩) s := reps_b8.2 rfl
  rcases hs with ⟨rfl, rfl, rfl⟩ | ⟨b, cap', arr, cs, rest, rfl, rfl, e3, e4, e5, e6, e7⟩
  · by_cases h0 : s = []
    · subst h0
      refine ⟨.slice none 0 0, w, [], ?_, OwnSl.nil, hw⟩
      have hsv : sv [] = .string ByteArray.empty := rfl
      rw [hsv]
      simp [Builtin.append_, run_underlying ht, run_underlying hu, sizeOf, typeInfo, hi, Builtin.lenOf, Builtin.firstCells]
    · have hp : 0 < s.length := List.length_pos_iff.2 h0
      simp only [List.length_nil, Nat.zero_add] at hroom h63 hmax
      have hr := run_append_nil_string (P := P) w t u ty e i z ht hu hi hz ⟨s.toArray⟩ (by rw [hss]; exact hp) (by rw [hss]; exact h63) (by rw [hss]; omega)
      rw [hss] at hr
      refine ⟨_, _, _, hr, .inr ⟨_, grownCap w s.length 0 e, _, strCells ⟨s.toArray⟩, (Builtin.zeroCells z.cells (grownCap w s.length 0 e - s.length)).toList, rfl, rfl, ?_, ?_, ?_, ?_, hns⟩, hw.drew.alloc _⟩
      · simp [strCells]
      · have h1 := grownCap_ge w s.length 0 e
        simp only [Array.size_append, Array.size_map, size_zeroCells, hzs, cB8]
        show s.length + _ = _; omega
      · simpa using grownCap_ge w s.length 0 e
      · exact grownCap_le_maxLen w _ _ _ hmax
  · have hcl := Codec.reps_length e7
    have hc1 : cB8.size = 1 := rfl
    rw [hc1, Nat.mul_one] at hcl e4
    have hg := hw.own (b, .cells arr e (0, 0)) (by simp)
    by_cases hroom' : xs.length + s.length ≤ cap'
    · have hr := run_append_room_string (P := P) w t u ty e i ht hu hi hsz b xs.length cap' arr hg ⟨s.toArray⟩ (by rw [hss]; exact hroom') (by rw [hss, e4]; exact hroom')
      rw [hss] at hr
      have htk : arr.toList.take xs.length = cs := by rw [← hcl, e3, List.take_left]
      refine ⟨_, _, [(b, .cells (arr.toList.take xs.length ++ strCells ⟨s.toArray⟩ ++ arr.toList.drop (xs.length + s.length)).toArray e (0, 0))], hr, .inr ⟨b, cap', _, cs ++ strCells ⟨s.toArray⟩, arr.toList.drop (xs.length + s.length), by rw [List.length_append], rfl, ?_, ?_, ?_, e6, Codec.reps_append e7 hns⟩, ?_⟩
      · simp only [htk, List.append_assoc]
      · simp only [htk, List.size_toArray, List.length_append, List.length_drop, Array.length_toList, hsc, hc1]
        omega
      · rw [List.length_append]; exact hroom'
      · exact hw.write rfl rfl rfl (by simp [World.setRow]) (setRow_heap w b arr _ e _ hg) (fun k hk => setRow_other w b k _ hk)
    · have holds : ∀ j u, cs[j]? = some u → w.cell? ((⟨b, 0, none⟩ : Addr).add j) = some u := fun j u hj => by
        rw [Addr.add_lit]
        simp only [World.cell?, hg]
        simp only [Option.isSome_none, Bool.false_eq_true, if_false]
        have hj' := (List.getElem?_eq_some_iff.1 hj).1
        rw [← Array.getElem?_toList, e3, Nat.zero_add, List.getElem?_append_left (by omega)]
        exact hj
      have hr := run_append_grow_string (P := P) w t u ty e i z ht hu hi hz ⟨b, 0, none⟩ xs.length cap' cs (by rw [hcl, hsz, Nat.mul_one]) holds ⟨s.toArray⟩ (by rw [hss]; omega) (by rw [hss]; exact h63) (by rw [hss]; exact growslice_fits (by omega) hroom)
      rw [hss] at hr
      refine ⟨_, _, _, hr, .inr ⟨_, grownCap w (xs.length + s.length) cap' e, _, cs ++ strCells ⟨s.toArray⟩, (Builtin.zeroCells z.cells (grownCap w (xs.length + s.length) cap' e - (xs.length + s.length))).toList, by rw [List.length_append]; rfl, rfl, by simp, ?_, ?_, ?_, Codec.reps_append e7 hns⟩, (hw.drop (s := [(b, .cells arr e (0, 0))])).drew.alloc _⟩
      · have h1 := grownCap_ge w (xs.length + s.length) cap' e
        simp only [Array.size_append, List.size_toArray, size_zeroCells, hzs, hcl, hsc, hc1]
        omega
      · rw [List.length_append]; exact grownCap_ge w _ _ e
      · exact grownCap_le_maxLen w _ _ _ hmax
end app
section rules
variable {P : Program} {ops : Array Oper} {Q : Exit → Act → World → Prop} {n : Nat} {l : List (Nat × Value)} {rest : List Oper} {w0 w : World} {H : View} {L : Seg} {ty : TypeId} {pos : String} {af : Array Edge}
theorem WL.appends {fp : Seg} {d : Nat} {t u e : TypeId} {z : Value} {bytes : Nat} {x y : Operand} {v : Value} {xs s : Str} (hdn : Nat.blt d n = true)
    (ht : P.underlying t = some (.slice e)) (hu : P.underlying u = some .string) (hi : (P.info? e).map (fun i => (i.zero, i.size, i.bytes)) = some (some z, 1, bytes)) (hzs : z.cells.size = 1)
    (hx : opv l x = some v) (hy : opv l y = some (sv s)) (hw : St w0 H (fp ++ L) w) (hs : OwnSl H cB8 e v xs fp) (hroom : (xs.length + s.length) * bytes ≤ 140737488355328) (hmax : xs.length + s.length ≤ maxLen)
    (k : ∀ v' w' fp', OwnSl H cB8 e v' (xs ++ s) fp' → St w0 H (fp' ++ L) w' → WL P ops Q n ((d, v') :: l) rest w') :
    WL P ops Q n l (⟨some d, .call { callee := .builtin .append, args := #[x, y], argTypes := #[t, u] }, ty, pos, af, none⟩ :: rest) w := by
  obtain ⟨i, hI, hz, h1, h2⟩ := info_parts hi
  subst h2
  obtain ⟨v', w', fp', hr, ho, hst⟩ := run_append_s (P := P) (ty := ty) ht hu hI hz h1 hzs hw hs hroom hmax
  refine WL.turn rfl rfl hdn (fun a ha => ?_) (k v' w' fp' ho hst)
  simp [execOp, resolve, invoke, builtin, ha.eval hx, ha.eval hy, hr]
end rules
section ex
variable {P : Program} {n : Nat} {l : List (Nat × Value)} {C : World → Prop} {dst : Option Tmp} {ty : TypeId} {pos : String} {af : Array Edge} {gd : Option (Nat × Bool)} {H K : View} {w0 : World} {L fp : Seg}
theorem foldl_push_u8 (s : Str) : ∀ (acc : List UInt8), (s.map fun b => ((b.toNat : Nat) : Int)).foldl (fun (r : ByteArray) n => r.push (UInt8.ofNat n.toNat)) ⟨acc.toArray⟩ = ⟨(acc ++ s).toArray⟩ := by
  induction s with
  | nil => intro acc; simp
  | cons b s ih =>
    intro acc
    simp only [List.map_cons, List.foldl_cons]
    have : (⟨acc.toArray⟩ : ByteArray).push (UInt8.ofNat ((b.toNat : Int)).toNat) = ⟨(acc ++ [b]).toArray⟩ := by
      simp [ByteArray.push]
    rw [this, ih]; simp
theorem ex_conv_own {src dt e T : TypeId} {x : Operand} {v : Value} {s : Str} (hs : P.underlying src = some (.slice e)) (he : P.underlying e = some (.int .u8)) (hd : P.underlying dt = some .string) (hx : opv l x = some v) (ho : OwnSl H cB8 T v s fp) :
    Exv P n l (St w0 H (fp ++ L)) ⟨dst, .convert src dt x, ty, pos, af, gd⟩ (sv s) := fun w hw a ha => by
  rcases ho with ⟨rfl, rfl, rfl⟩ | ⟨b, cap', arr, cs, rest, rfl, rfl, e3, e4, e5, e6, e7⟩
  · have := run_convert_bytes_string (P := P) w src dt e none 0 0 hs he hd
    have h2 : (Conv.bytesToString (.slice none 0 0)).run P w = .ok (sv []) w := by simp [Conv.bytesToString]; rfl
    simp [execOp, ha.eval hx, this, h2]
  · have hg := hw.own (b, .cells arr T (0, 0)) (by simp)
    have hcs := reps_b8.1 e7
    have hl : (loadCells ⟨b, 0, none⟩ s.length).run P w = .ok (((s.map fun b => ((b.toNat : Nat) : Int)).map (Value.int .u8)).toArray) w := by
      have hcs2 : cs = (s.map fun b => ((b.toNat : Nat) : Int)).map (Value.int .u8) := by rw [hcs]; simp [strCells]
      have hlen : cs.length = s.length := by rw [hcs2]; simp
      have := run_loadCells_block (P := P) (off := 0) (k := s.length) (cs := cs) hg (by rw [e3]; simp [← hlen]) hlen
      rw [this, hcs2]
    have h1 := run_bytesToString (P := P) w ⟨b, 0, none⟩ s.length cap' _ hl
    have h2 := run_convert_bytes_string (P := P) w src dt e (some ⟨b, 0, none⟩) s.length cap' hs he hd
    rw [h1] at h2
    have h3 := foldl_push_u8 s []
    have h4 : (⟨([] : List UInt8).toArray⟩ : ByteArray) = ByteArray.empty := rfl
    rw [h4] at h3
    rw [h3] at h2
    simp [execOp, ha.eval hx, h2, sv]
theorem ex_conv_int {src dt : TypeId} {x : Operand} {k k' : IntKind} {i : Int} (hs : P.underlying src = some (.int k)) (hd : P.underlying dt = some (.int k')) (hx : opv l x = some (.int k i)) :
    Exv P n l C ⟨dst, .convert src dt x, ty, pos, af, gd⟩ (.int k' (k'.wrap i)) := fun w _ a ha => by
  simp [execOp, ha.eval hx, convert, run_underlying hs, run_underlying hd, Conv.intToInt]
theorem ex_wrap_add {t t' : TypeId} {k : IntKind} {x y : Operand} {p q : Int} (hx : opv l x = some (.int k p)) (hy : opv l y = some (.int k q)) : Exv P n l C ⟨dst, .binOp .add t x y t', ty, pos, af, gd⟩ (.int k (k.wrap (p + q))) := ex_bin hx hy fun w => by simp [binOp, Op.intArith]
theorem ex_wrap_sub {t t' : TypeId} {k : IntKind} {x y : Operand} {p q : Int} (hx : opv l x = some (.int k p)) (hy : opv l y = some (.int k q)) : Exv P n l C ⟨dst, .binOp .sub t x y t', ty, pos, af, gd⟩ (.int k (k.wrap (p - q))) := ex_bin hx hy fun w => by simp [binOp, Op.intArith]
theorem ex_wrap_mul {t t' : TypeId} {k : IntKind} {x y : Operand} {p q : Int} (hx : opv l x = some (.int k p)) (hy : opv l y = some (.int k q)) : Exv P n l C ⟨dst, .binOp .mul t x y t', ty, pos, af, gd⟩ (.int k (k.wrap (p * q))) := ex_bin hx hy fun w => by simp [binOp, Op.intArith]
theorem ex_wrap_neg {t : TypeId} {k : IntKind} {x : Operand} {p : Int} (hx : opv l x = some (.int k p)) : Exv P n l C ⟨dst, .unOp .neg t x, ty, pos, af, gd⟩ (.int k (k.wrap (-p))) := fun w _ a ha => by
  simp [execOp, ha.eval hx, Op.unary, Op.intArith]
end ex
theorem wrap_has (k : IntKind) (x : Int) : k.has (k.wrap x) := by
  cases k <;> simp only [IntKind.has, IntKind.wrap, IntKind.min, IntKind.max, IntKind.bits, IntKind.signed] <;> simp <;> first | omega | (split <;> omega)
theorem wrap_I64 (x : Int) : I64 (IntKind.i64.wrap x) := has_I64 (wrap_has _ x)
end Go.Vc
