/- What the walks of seat v use of Go's library. -/
import Derived.Test.YtlhkfkecoekoeaaGreatDoorAl
import Derived.Test.YtlhkfkecoekoeaaGreatDoorSrt
import Derived.Lib.ItoaNum
import Derived.Lib.Bytealg
import Derived.Lib.ParseIntB
import Derived.Below
set_option linter.unusedVariables false
namespace Go.Vc
open Go
def GlobN (w0 : World) (H : View) : Prop := w0.drawn = 0 ∧ (∃ T fz, H 4 = some (.cells (Lib.pow10Tab.map (Value.int .u64)).toArray T fz)) ∧ ∃ arr T fz t v, H 3 = some (.cells arr T fz) ∧ arr[0]? = some (.iface t v)
theorem GlobN.mono {w0 : World} {H K : View} (h : GlobN w0 H) (hle : View.le H K) : GlobN w0 K := by
  obtain ⟨h0, ⟨T, fz, h2⟩, arr, T', fz', t, v, h3, h4⟩ := h
  exact ⟨h0, ⟨T, fz, hle _ _ h2⟩, arr, T', fz', t, v, hle _ _ h3, h4⟩
def V_appUint (b : Str) (u base : Int) (Q : Str → Prop) : Prop := base = 10 ∧ (b.length + 20 : Nat) ≤ 1000000 ∧ Q (b ++ Lib.decDigits u.toNat)
def V_IndexByte (s : Str) (c : Int) (Q : Int → Prop) : Prop := s.length ≤ 1000000 ∧ Q (Lib.indexByte s c.toNat.toUInt8)
def V_ParseUint (s : Str) (base size : Int) (Q : Int → Bool → Prop) : Prop := base = 10 ∧ size = 64 ∧ s.length ≤ 1000000 ∧ match Lib.parseUintB 64 s with | .ok u => Q u true | .range => Q 18446744073709551615 false | _ => False
theorem St.refl0 (w : World) : St { w with drawn := 0 } (fun k => w.heap[k]?) [] w := ⟨rfl, rfl, rfl, Nat.le_refl _, fun _ _ h => h, fun _ h => (by cases h), fun _ h => (by cases h), List.nodup_nil, Nat.zero_le _⟩
theorem St.below0 {L : Seg} {w w' : World} (h : St { w with drawn := 0 } (fun k => w.heap[k]?) L w') : RowKit.Below w.heap.size w w' :=
  ⟨h.os, h.tape, h.output, h.size, fun k hk => by
    have : w.heap[k]? = some w.heap[k] := Array.getElem?_eq_getElem hk
    rw [this]; exact h.fits k _ this⟩
theorem St.of_below {w0 : World} {H : View} {L : Seg} {w w' : World} (hS : St w0 H L w) (hb : RowKit.Below w.heap.size w w') (hd : w0.drawn ≤ w'.drawn) : St w0 H L w' := by
  have hk : ∀ k o, w.heap[k]? = some o → w'.heap[k]? = some o := fun k o h => by
    rw [hb.block k (Array.getElem?_eq_some_iff.1 h).1]; exact h
  exact ⟨hb.os.trans hS.os, hb.tape.trans hS.tape, hb.output.trans hS.output, Nat.le_trans hS.size hb.size, fun k o h => hk k o (hS.fits k o h), fun p hp => hk _ _ (hS.own p hp), hS.sep, hS.nodup, hd⟩
end Go.Vc
