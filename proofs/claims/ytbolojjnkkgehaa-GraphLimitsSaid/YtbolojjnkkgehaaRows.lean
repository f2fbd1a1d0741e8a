/-
  No cell of these rows narrows 'for every input' (looked for: loops, veiled, ifaces, maps, wideKeys, modest, calm, conditions, laid).
  DERIVED. THE GIVEN ROWS OF THIS SEAT. 5 by the template 'for every input the law returns true; each argument reads behind the call as it read before'; 0 by the template 'total and deterministic' (their statements: YtbolojjnkkgehaaTotals.lean).
  GIVEN WITH THE SEED: the statements are not yours to turn. If you find one false, say at which input.
  Laid BY PROGRAM, IN A SANDBOX (cutbox-rows.mjs): the forced cells as the released guide's own fill.sh prints them over the translation 4c9a95a516a5bd78… (all of the seat's roots in one cut). By AI agents, Wed Nov 11 2026. No macro, syntax, notation, axiom, sorry.
-/
import Derived.Test.YtbolojjnkkgehaaChecked
import GoSem.Claim
import GoSem.ClaimJoined
import GoSem.ClaimMapViews
import Derived.JoinedTies
import Derived.KernelRfl
namespace Go.Proofs.Ytbolojjnkkgehaa
/- THE CELL 'sum', in the pinned program and in every row, IS THE sha256 OF THE DUMP (.gsa) THAT YtbolojjnkkgehaaProg.lean LOADS. Nothing in Lean hashes anything: it is a label: what it is worth is what the hold of that sum in a sandbox is worth. -/
noncomputable def Try.pinned : Pinned := { name := "ytbolojjnkkgehaa", sum := "4c9a95a516a5bd7824cc6cafc27eea9b66f298ddedb1554978ced7491fb428c3", checked := Try.checked }
namespace Rows
def none {H : Type} : Left H := { results := [], args := [] }

/-- 'bridlewaylaw07.GraphTurns': WHATEVER THE INPUT: true; the input reads as it did. -/
def graphTurnsSpec : ChangeSpec := { name := "graphTurns", fn := fun _ => fun
  | [d] => { results := [.lit (.bool true)], args := [d] }
  | _ => none }
def graphTurnsRow : OpenClaim := { program := "ytbolojjnkkgehaa", sum := "4c9a95a516a5bd7824cc6cafc27eea9b66f298ddedb1554978ced7491fb428c3", func := "bridleway/bridlewaylaw07.GraphTurns", spec := "graphTurns", inPlace := ["math.Float64frombits", "math.Float64bits"], unfollowed := true, recurses := true, apart := false }
def GraphTurnsSaid : Prop := graphTurnsRow.holds Try.pinned (OpenSpec.ofChange graphTurnsSpec)

/-- ITS FALSE NEIGHBOUR: 'it returns false'. Refute it at one input. -/
def graphTurnsWrong : ChangeSpec := { name := "graphTurns", fn := fun _ => fun
  | [d] => { results := [.lit (.bool false)], args := [d] }
  | _ => none }
def GraphTurnsWrongFalsely : Prop := graphTurnsRow.holds Try.pinned (OpenSpec.ofChange graphTurnsWrong)

/-- 'bridlewaylaw07.GraphLimits': WHATEVER THE INPUT: true; the input reads as it did. -/
def graphLimitsSpec : ChangeSpec := { name := "graphLimits", fn := fun _ => fun
  | [d1, d2, d3] => { results := [.lit (.bool true)], args := [d1, d2, d3] }
  | _ => none }
def graphLimitsRow : OpenClaim := { program := "ytbolojjnkkgehaa", sum := "4c9a95a516a5bd7824cc6cafc27eea9b66f298ddedb1554978ced7491fb428c3", func := "bridleway/bridlewaylaw07.GraphLimits", spec := "graphLimits", inPlace := ["math.Float64frombits", "math.Float64bits"], unfollowed := true, recurses := true, apart := false }
def GraphLimitsSaid : Prop := graphLimitsRow.holds Try.pinned (OpenSpec.ofChange graphLimitsSpec)

/-- ITS FALSE NEIGHBOUR: 'it returns false'. Refute it at one input. -/
def graphLimitsWrong : ChangeSpec := { name := "graphLimits", fn := fun _ => fun
  | [d1, d2, d3] => { results := [.lit (.bool false)], args := [d1, d2, d3] }
  | _ => none }
def GraphLimitsWrongFalsely : Prop := graphLimitsRow.holds Try.pinned (OpenSpec.ofChange graphLimitsWrong)

/-- 'bridlewaylaw07.GraphFlat': WHATEVER THE INPUT: true; the input reads as it did. -/
def graphFlatSpec : ChangeSpec := { name := "graphFlat", fn := fun _ => fun
  | [d] => { results := [.lit (.bool true)], args := [d] }
  | _ => none }
def graphFlatRow : OpenClaim := { program := "ytbolojjnkkgehaa", sum := "4c9a95a516a5bd7824cc6cafc27eea9b66f298ddedb1554978ced7491fb428c3", func := "bridleway/bridlewaylaw07.GraphFlat", spec := "graphFlat", inPlace := ["math.Float64frombits", "math.Float64bits"], unfollowed := true, recurses := true, apart := false }
def GraphFlatSaid : Prop := graphFlatRow.holds Try.pinned (OpenSpec.ofChange graphFlatSpec)

/-- ITS FALSE NEIGHBOUR: 'it returns false'. Refute it at one input. -/
def graphFlatWrong : ChangeSpec := { name := "graphFlat", fn := fun _ => fun
  | [d] => { results := [.lit (.bool false)], args := [d] }
  | _ => none }
def GraphFlatWrongFalsely : Prop := graphFlatRow.holds Try.pinned (OpenSpec.ofChange graphFlatWrong)

/-- 'bridlewaylaw07.GraphProps': WHATEVER THE INPUT: true; the input reads as it did. -/
def graphPropsSpec : ChangeSpec := { name := "graphProps", fn := fun _ => fun
  | [d1, d2] => { results := [.lit (.bool true)], args := [d1, d2] }
  | _ => none }
def graphPropsRow : OpenClaim := { program := "ytbolojjnkkgehaa", sum := "4c9a95a516a5bd7824cc6cafc27eea9b66f298ddedb1554978ced7491fb428c3", func := "bridleway/bridlewaylaw07.GraphProps", spec := "graphProps", inPlace := ["math.Float64frombits", "math.Float64bits", "internal/bytealg.abigen_runtime_cmpstring"], unfollowed := true, recurses := true, apart := false }
def GraphPropsSaid : Prop := graphPropsRow.holds Try.pinned (OpenSpec.ofChange graphPropsSpec)

/-- ITS FALSE NEIGHBOUR: 'it returns false'. Refute it at one input. -/
def graphPropsWrong : ChangeSpec := { name := "graphProps", fn := fun _ => fun
  | [d1, d2] => { results := [.lit (.bool false)], args := [d1, d2] }
  | _ => none }
def GraphPropsWrongFalsely : Prop := graphPropsRow.holds Try.pinned (OpenSpec.ofChange graphPropsWrong)

/-- 'bridlewaylaw07.GraphTells': WHATEVER THE INPUT: true; the input reads as it did. -/
def graphTellsSpec : ChangeSpec := { name := "graphTells", fn := fun _ => fun
  | [d1, d2, d3, d4, d5] => { results := [.lit (.bool true)], args := [d1, d2, d3, d4, d5] }
  | _ => none }
def graphTellsRow : OpenClaim := { program := "ytbolojjnkkgehaa", sum := "4c9a95a516a5bd7824cc6cafc27eea9b66f298ddedb1554978ced7491fb428c3", func := "bridleway/bridlewaylaw07.GraphTells", spec := "graphTells", inPlace := ["math.Float64frombits", "math.Float64bits", "internal/bytealg.abigen_runtime_cmpstring"], unfollowed := true, recurses := true, apart := false }
def GraphTellsSaid : Prop := graphTellsRow.holds Try.pinned (OpenSpec.ofChange graphTellsSpec)

/-- ITS FALSE NEIGHBOUR: 'it returns false'. Refute it at one input. -/
def graphTellsWrong : ChangeSpec := { name := "graphTells", fn := fun _ => fun
  | [d1, d2, d3, d4, d5] => { results := [.lit (.bool false)], args := [d1, d2, d3, d4, d5] }
  | _ => none }
def GraphTellsWrongFalsely : Prop := graphTellsRow.holds Try.pinned (OpenSpec.ofChange graphTellsWrong)

/- THE SECOND FORM. 'bulk': how many values and letters a reading holds, each counted each time it is reached (what is shared counts as often as it is met; a slice's spare places count too). A statement '..UptoSaid' is the law's where the arguments, and the package variables that the reading takes, are together of bulk at most 1048576: NARROWER than '..Said'. Prove '..Said' where nothing that the law and all that it calls make is longer than what came in: it says more and counts as full. Else prove '..UptoSaid'. A law counts once. -/
mutual
def uptoBulk {H : Type} : DataW H → Nat
  | .lit (.string bytes) => bytes.length + 1
  | .lit _ => 1
  | .nil => 1
  | .ptr d => uptoBulk d + 1
  | .slice elems spare => uptoBulkAll elems + uptoBulkAll spare + 1
  | .agg parts => uptoBulkAll parts + 1
  | .iface _ d => uptoBulk d + 1
  | .map entries => uptoBulkEntries entries + 1
  | .held _ => 1
def uptoBulkAll {H : Type} : List (DataW H) → Nat
  | [] => 0
  | d :: r => uptoBulk d + uptoBulkAll r
def uptoBulkEntries {H : Type} : List (Lit × DataW H) → Nat
  | [] => 0
  | x :: r => uptoBulkEntry x + uptoBulkEntries r
def uptoBulkEntry {H : Type} : Lit × DataW H → Nat
  | (.string bytes, d) => bytes.length + uptoBulk d + 1
  | (_, d) => uptoBulk d + 1
 end
def uptoSmall : (H : Type) → List (DataW H) → Bool := fun _ ds => decide (uptoBulkAll ds ≤ 1048576)
def OpenSpec.upto (s : _root_.Go.ChangeSpec) : _root_.Go.OpenSpec := { _root_.Go.OpenSpec.ofChange s with cond := some uptoSmall }

/-- 'bridlewaylaw07.GraphTurns', WHERE WHAT IT READS IS OF BULK AT MOST 1048576: true; the input reads as it did. -/
def graphTurnsUptoRow : OpenClaim := { program := "ytbolojjnkkgehaa", sum := "4c9a95a516a5bd7824cc6cafc27eea9b66f298ddedb1554978ced7491fb428c3", func := "bridleway/bridlewaylaw07.GraphTurns", spec := "graphTurns", inPlace := ["math.Float64frombits", "math.Float64bits"], unfollowed := true, recurses := true, apart := false, narrowed := true }
def GraphTurnsUptoSaid : Prop := graphTurnsUptoRow.holds Try.pinned (OpenSpec.upto graphTurnsSpec)

/-- 'bridlewaylaw07.GraphLimits', WHERE WHAT IT READS IS OF BULK AT MOST 1048576: true; the input reads as it did. -/
def graphLimitsUptoRow : OpenClaim := { program := "ytbolojjnkkgehaa", sum := "4c9a95a516a5bd7824cc6cafc27eea9b66f298ddedb1554978ced7491fb428c3", func := "bridleway/bridlewaylaw07.GraphLimits", spec := "graphLimits", inPlace := ["math.Float64frombits", "math.Float64bits"], unfollowed := true, recurses := true, apart := false, narrowed := true }
def GraphLimitsUptoSaid : Prop := graphLimitsUptoRow.holds Try.pinned (OpenSpec.upto graphLimitsSpec)

/-- 'bridlewaylaw07.GraphFlat', WHERE WHAT IT READS IS OF BULK AT MOST 1048576: true; the input reads as it did. -/
def graphFlatUptoRow : OpenClaim := { program := "ytbolojjnkkgehaa", sum := "4c9a95a516a5bd7824cc6cafc27eea9b66f298ddedb1554978ced7491fb428c3", func := "bridleway/bridlewaylaw07.GraphFlat", spec := "graphFlat", inPlace := ["math.Float64frombits", "math.Float64bits"], unfollowed := true, recurses := true, apart := false, narrowed := true }
def GraphFlatUptoSaid : Prop := graphFlatUptoRow.holds Try.pinned (OpenSpec.upto graphFlatSpec)

/-- 'bridlewaylaw07.GraphProps', WHERE WHAT IT READS IS OF BULK AT MOST 1048576: true; the input reads as it did. -/
def graphPropsUptoRow : OpenClaim := { program := "ytbolojjnkkgehaa", sum := "4c9a95a516a5bd7824cc6cafc27eea9b66f298ddedb1554978ced7491fb428c3", func := "bridleway/bridlewaylaw07.GraphProps", spec := "graphProps", inPlace := ["math.Float64frombits", "math.Float64bits", "internal/bytealg.abigen_runtime_cmpstring"], unfollowed := true, recurses := true, apart := false, narrowed := true }
def GraphPropsUptoSaid : Prop := graphPropsUptoRow.holds Try.pinned (OpenSpec.upto graphPropsSpec)

/-- 'bridlewaylaw07.GraphTells', WHERE WHAT IT READS IS OF BULK AT MOST 1048576: true; the input reads as it did. -/
def graphTellsUptoRow : OpenClaim := { program := "ytbolojjnkkgehaa", sum := "4c9a95a516a5bd7824cc6cafc27eea9b66f298ddedb1554978ced7491fb428c3", func := "bridleway/bridlewaylaw07.GraphTells", spec := "graphTells", inPlace := ["math.Float64frombits", "math.Float64bits", "internal/bytealg.abigen_runtime_cmpstring"], unfollowed := true, recurses := true, apart := false, narrowed := true }
def GraphTellsUptoSaid : Prop := graphTellsUptoRow.holds Try.pinned (OpenSpec.upto graphTellsSpec)

end Rows
end Go.Proofs.Ytbolojjnkkgehaa
