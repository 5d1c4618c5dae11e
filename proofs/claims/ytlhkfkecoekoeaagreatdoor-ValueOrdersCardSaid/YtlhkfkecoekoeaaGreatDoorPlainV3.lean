/- How values are shown, in plain words. No program in sight. -/
import Derived.Test.YtlhkfkecoekoeaaGreatDoorPlainV2
set_option linter.unusedVariables false
set_option linter.unusedSimpArgs false
namespace Go.Vc
/-- The digits of a number. -/
def digs : Nat → Nat → Str
  | 0, _ => []
  | f + 1, n => if n < 10 then [UInt8.ofNat (48 + n)] else digs f (n / 10) ++ [UInt8.ofNat (48 + n % 10)]
def showInt (n : Int) : Str := if n < 0 then 45 :: digs 20 n.natAbs else digs 20 n.natAbs
def restS : List Str → Str
  | [] => []
  | a :: l => 44 :: 32 :: (a ++ restS l)
def joinS : List Str → Str
  | [] => []
  | a :: l => a ++ restS l
def pairS (k v : List Str) : List Str := List.zipWith (fun a b => a ++ 58 :: 32 :: b) k v
def seqK : Int → List Val → Bool
  | _, [] => true
  | i, .num n :: l => decide (n = i) && seqK (i + 1) l
  | _, _ :: _ => false
mutual
def showV : Val → Str
  | .nil => [110, 105, 108]
  | .truth b => if b then [116, 114, 117, 101] else [102, 97, 108, 115, 101]
  | .num n => showInt n
  | .text s => 34 :: (s ++ [34])
  | .atom s => s
  | .set l _ => 123 :: (joinS (showLs l) ++ [125])
  | .fn k v _ => if seqK 1 k then 60 :: 60 :: (joinS (showLs v) ++ [62, 62]) else 91 :: (joinS (pairS (showLs k) (showLs v)) ++ [93])
def showLs : List Val → List Str
  | [] => []
  | a :: l => showV a :: showLs l
end
theorem take_ix {α : Type} [Inhabited α] {l : List α} {i : Int} (h0 : 0 ≤ i) (h1 : i < l.length) : l.take (i + 1).toNat = l.take i.toNat ++ [ix l i] := by
  have h2 : i.toNat < l.length := by omega
  have : (i + 1).toNat = i.toNat + 1 := by omega
  rw [this, List.take_add_one]; simp [ix, h2]
mutual
/-- Where a function has a value for each key. -/
def Ev : Val → Prop
  | .set l _ => EvL l
  | .fn k v _ => k.length = v.length ∧ EvL k ∧ EvL v
  | .num n => I64 n
  | _ => True
def EvL : List Val → Prop
  | [] => True
  | a :: l => Ev a ∧ EvL l
end
theorem digs_len : ∀ f n, (digs f n).length ≤ f
  | 0, n => by simp [digs]
  | f + 1, n => by
    have := digs_len f (n / 10)
    simp only [digs]; split <;> simp <;> omega
end Go.Vc
