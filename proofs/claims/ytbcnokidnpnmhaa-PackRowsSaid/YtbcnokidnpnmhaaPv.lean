import Derived.Test.YtbcnokidnpnmhaaPk
import Derived.Test.YtbcnokidnpnmhaaRgt
/-! Plain: values as bytes. -/
namespace Go.Proofs.Ytbcnokidnpnmhaa
open Go.RowKit

/-- A value: its kind, number, float, text. -/
structure Vl where
  k : Int
  n : Int
  f : Nat
  s : List UInt8

/-- The value at the beginning, and how many bytes it has. -/
def valueB : List UInt8 → Option (Vl × Nat)
  | [] => none
  | c :: r =>
    if c.toNat = 0 then some (⟨0, 0, 0, []⟩, 1)
    else if c.toNat = 1 then (match getB r with | none => none | some (n, k) => if n < 2 then some (⟨1, n, 0, []⟩, 1 + k) else none)
    else if c.toNat = 2 then (match getB r with | none => none | some (n, k) => if n < 9223372036854775808 then some (⟨2, n, 0, []⟩, 1 + k) else none)
    else if c.toNat = 18 then (match getB r with | none => none | some (n, k) => if n < 9223372036854775808 then some (⟨2, -1 - n, 0, []⟩, 1 + k) else none)
    else if c.toNat = 3 then (if r.length < 8 then none else if keyB (ofKeyB (valB (r.take 8))) = valB (r.take 8) then some (⟨3, 0, ofKeyB (valB (r.take 8)), []⟩, 9) else none)
    else if c.toNat = 4 then (match textB r with | none => none | some (s, k) => some (⟨4, 0, 0, s⟩, 1 + k))
    else none

def putValueB (v : Vl) : List UInt8 :=
  if v.k = 1 ∨ v.k = 2 then (if v.n < 0 then UInt8.ofNat (v.k + 16).toNat :: putB (-1 - v.n).toNat else UInt8.ofNat v.k.toNat :: putB v.n.toNat)
  else if v.k = 3 then 3 :: fixB 8 (keyB v.f)
  else if v.k = 4 then 4 :: putTextB v.s
  else [0]

end Go.Proofs.Ytbcnokidnpnmhaa
