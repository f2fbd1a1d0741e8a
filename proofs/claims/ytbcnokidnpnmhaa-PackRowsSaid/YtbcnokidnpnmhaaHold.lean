import Derived.Test.YtbcnokidnpnmhaaRow2
import Derived.Deep.RegionHeld
import Derived.Deep.DrawnRows
import Derived.Deep.DeepCutAuto
import Derived.Deep.CutRange
import Derived.BigQuiet
namespace Go.Proofs.Ytbcnokidnpnmhaa
open Go.ChangeShapes Go.WideShapes Go.ChangeAt Go.RowKit

/-- A slice's bytes, and its reading as text, in a world. -/
def Holds (V : Value) (l : List UInt8) (w : World) : Prop := ReadsB w V l ∧ (convert 22 9 V).run Try.prog w = .ok (.string ⟨l.toArray⟩) w
theorem holds_of {w : World} {V : Value} {l : List UInt8} (h : ReadsB w V l) : ReadsB w V l ∧ (convert 22 9 V).run Try.prog w = .ok (.string ⟨l.toArray⟩) w := ⟨h, reads_string b5 h⟩
theorem holds_grown {w w' : World} {V : Value} {l : List UInt8} (h : ReadsB w V l) (hg : w.grownBy w' none) : ReadsB w' V l ∧ (convert 22 9 V).run Try.prog w' = .ok (.string ⟨l.toArray⟩) w' := holds_of (h.grown hg (Classical.em _))
theorem holds_drew {w : World} {V : Value} {l : List UInt8} (h : ReadsB w V l) : ReadsB w.drew V l ∧ (convert 22 9 V).run Try.prog w.drew = .ok (.string ⟨l.toArray⟩) w.drew := holds_of (h.kept fun _ _ _ hx _ => hx)
theorem belowN {w0 w w' : World} (hb : Below w0.heap.size w0 w) (h : w.grownBy w' (Value.slice none 0 0).ownBlock) : Below w0.heap.size w0 w' := hb.grown h hb.size (by simp [Value.ownBlock])

end Go.Proofs.Ytbcnokidnpnmhaa
