/-
  NARROWER THAN 'FOR EVERY INPUT', by the rows' own cells (each row's printed sentence says how): NumOrders: laid · NumTexts: laid · NumBack: laid · NumAgainst: laid · NumSigns: laid · NumWhole: laid · NumParsed: laid · NumKeys: laid · NumSteps: laid.
  DERIVED. THE GIVEN ROWS OF THIS SEAT. 9 by the template 'for every input the law returns true; each argument reads behind the call as it read before'; 0 by the template 'total and deterministic' (their statements: YtnbpioinhjijcaaDoorTotals.lean).
  GIVEN WITH THE SEED: the statements are not yours to turn. If you find one false, say at which input.
  Laid BY PROGRAM, IN A SANDBOX (cutbox-rows.mjs): the forced cells as the released guide's own fill.sh prints them over the translation 958f11a0906d5973… (all of the seat's roots in one cut). By AI agents, Wed Nov 11 2026. No macro, syntax, notation, axiom, sorry.
-/
import Derived.Test.YtnbpioinhjijcaaDoorChecked
import GoSem.Claim
import GoSem.ClaimJoined
import GoSem.ClaimMapViews
import Derived.JoinedTies
import Derived.KernelRfl
namespace Go.Proofs.YtnbpioinhjijcaaDoor
/- THE CELL 'sum', in the pinned program and in every row, IS THE sha256 OF THE DUMP (.gsa) THAT YtnbpioinhjijcaaDoorProg.lean LOADS. Nothing in Lean hashes anything: it is a label: what it is worth is what the hold of that sum in a sandbox is worth. -/
noncomputable def Tryd.pinned : Pinned := { name := "ytnbpioinhjijcaadoor", sum := "958f11a0906d5973c490ed4de2a4a3726204134d2eeefdc56b3c45e52fc60f39", checked := Tryd.checked }
namespace Rows
def none {H : Type} : Left H := { results := [], args := [] }

/- WHAT THE LISTED PACKAGE-LEVEL VARIABLES READ AS WHEN THE CALL BEGINS. Each datum BY PROGRAM (the guide's laid-datum.mjs) off the statement by which the dump's own 'gosem.cut.vars' lays the variable. In a bare row this is a premise. The card (YtnbpioinhjijcaaDoorCards.lean) ties it to the program's text. -/
def laid_math_bits_deBruijn32tab {H : Type} : DataW H := .agg [.lit (.int .u8 0), .lit (.int .u8 1), .lit (.int .u8 28), .lit (.int .u8 2), .lit (.int .u8 29), .lit (.int .u8 14), .lit (.int .u8 24), .lit (.int .u8 3), .lit (.int .u8 30), .lit (.int .u8 22), .lit (.int .u8 20), .lit (.int .u8 15), .lit (.int .u8 25), .lit (.int .u8 17), .lit (.int .u8 4), .lit (.int .u8 8), .lit (.int .u8 31), .lit (.int .u8 27), .lit (.int .u8 13), .lit (.int .u8 23), .lit (.int .u8 21), .lit (.int .u8 19), .lit (.int .u8 16), .lit (.int .u8 7), .lit (.int .u8 26), .lit (.int .u8 12), .lit (.int .u8 18), .lit (.int .u8 6), .lit (.int .u8 11), .lit (.int .u8 5), .lit (.int .u8 10), .lit (.int .u8 9)]
def laid_math_bits_deBruijn64tab {H : Type} : DataW H := .agg [.lit (.int .u8 0), .lit (.int .u8 1), .lit (.int .u8 56), .lit (.int .u8 2), .lit (.int .u8 57), .lit (.int .u8 49), .lit (.int .u8 28), .lit (.int .u8 3), .lit (.int .u8 61), .lit (.int .u8 58), .lit (.int .u8 42), .lit (.int .u8 50), .lit (.int .u8 38), .lit (.int .u8 29), .lit (.int .u8 17), .lit (.int .u8 4), .lit (.int .u8 62), .lit (.int .u8 47), .lit (.int .u8 59), .lit (.int .u8 36), .lit (.int .u8 45), .lit (.int .u8 43), .lit (.int .u8 51), .lit (.int .u8 22), .lit (.int .u8 53), .lit (.int .u8 39), .lit (.int .u8 33), .lit (.int .u8 30), .lit (.int .u8 24), .lit (.int .u8 18), .lit (.int .u8 12), .lit (.int .u8 5), .lit (.int .u8 63), .lit (.int .u8 55), .lit (.int .u8 48), .lit (.int .u8 27), .lit (.int .u8 60), .lit (.int .u8 41), .lit (.int .u8 37), .lit (.int .u8 16), .lit (.int .u8 46), .lit (.int .u8 35), .lit (.int .u8 44), .lit (.int .u8 21), .lit (.int .u8 52), .lit (.int .u8 32), .lit (.int .u8 23), .lit (.int .u8 11), .lit (.int .u8 54), .lit (.int .u8 26), .lit (.int .u8 40), .lit (.int .u8 15), .lit (.int .u8 34), .lit (.int .u8 20), .lit (.int .u8 31), .lit (.int .u8 10), .lit (.int .u8 25), .lit (.int .u8 14), .lit (.int .u8 19), .lit (.int .u8 9), .lit (.int .u8 13), .lit (.int .u8 8), .lit (.int .u8 7), .lit (.int .u8 6)]
def laid_internal_strconv_uint64pow10 {H : Type} : DataW H := .agg [.lit (.int .u64 1), .lit (.int .u64 10), .lit (.int .u64 100), .lit (.int .u64 1000), .lit (.int .u64 10000), .lit (.int .u64 100000), .lit (.int .u64 1000000), .lit (.int .u64 10000000), .lit (.int .u64 100000000), .lit (.int .u64 1000000000), .lit (.int .u64 10000000000), .lit (.int .u64 100000000000), .lit (.int .u64 1000000000000), .lit (.int .u64 10000000000000), .lit (.int .u64 100000000000000), .lit (.int .u64 1000000000000000), .lit (.int .u64 10000000000000000), .lit (.int .u64 100000000000000000), .lit (.int .u64 1000000000000000000), .lit (.int .u64 10000000000000000000)]
def laid_strconv_ErrRange {H : Type} : DataW H := .iface "*errors.errorString" (.ptr (.agg [.lit (.string [118, 97, 108, 117, 101, 32, 111, 117, 116, 32, 111, 102, 32, 114, 97, 110, 103, 101])]))
def laid_strconv_ErrSyntax {H : Type} : DataW H := .iface "*errors.errorString" (.ptr (.agg [.lit (.string [105, 110, 118, 97, 108, 105, 100, 32, 115, 121, 110, 116, 97, 120])]))

/-- 'bridlewaylaw01.NumOrders': WHATEVER THE INPUT: true; the input reads as it did. -/
def numOrdersSpec : ChangeSpec := { name := "numOrders", fn := fun _ => fun
  | [d1, d2] => { results := [.lit (.bool true)], args := [d1, d2] }
  | _ => none }
def numOrdersRow : OpenClaim := { program := "ytnbpioinhjijcaadoor", sum := "958f11a0906d5973c490ed4de2a4a3726204134d2eeefdc56b3c45e52fc60f39", func := "bridleway/bridlewaylaw01.NumOrders", spec := "numOrders", inPlace := ["math.Float64frombits", "internal/bytealg.IndexByteString", "internal/bytealg.IndexString", "math.Float64bits", "math.archFloor", "math.archTrunc"], named := ["internal/bytealg.MaxLen", "strconv.ErrSyntax", "strconv.ErrRange", "internal/strconv.uint64pow10", "math/bits.deBruijn32tab", "math/bits.deBruijn64tab"], apart := false, laid := [("math/bits.deBruijn32tab", laid_math_bits_deBruijn32tab), ("math/bits.deBruijn64tab", laid_math_bits_deBruijn64tab), ("internal/strconv.uint64pow10", laid_internal_strconv_uint64pow10), ("strconv.ErrRange", laid_strconv_ErrRange), ("strconv.ErrSyntax", laid_strconv_ErrSyntax)] }
def NumOrdersSaid : Prop := numOrdersRow.holds Tryd.pinned (OpenSpec.ofChange numOrdersSpec)

/-- ITS FALSE NEIGHBOUR: 'it returns false'. Refute it at one input. -/
def numOrdersWrong : ChangeSpec := { name := "numOrders", fn := fun _ => fun
  | [d1, d2] => { results := [.lit (.bool false)], args := [d1, d2] }
  | _ => none }
def NumOrdersWrongFalsely : Prop := numOrdersRow.holds Tryd.pinned (OpenSpec.ofChange numOrdersWrong)

/-- 'bridlewaylaw01.NumTexts': WHATEVER THE INPUT: true; the input reads as it did. -/
def numTextsSpec : ChangeSpec := { name := "numTexts", fn := fun _ => fun
  | [d1, d2] => { results := [.lit (.bool true)], args := [d1, d2] }
  | _ => none }
def numTextsRow : OpenClaim := { program := "ytnbpioinhjijcaadoor", sum := "958f11a0906d5973c490ed4de2a4a3726204134d2eeefdc56b3c45e52fc60f39", func := "bridleway/bridlewaylaw01.NumTexts", spec := "numTexts", inPlace := ["math.Float64frombits", "internal/bytealg.IndexByteString", "internal/bytealg.IndexString", "math.Float64bits", "math.archFloor", "math.archTrunc"], recurses := true, named := ["internal/bytealg.MaxLen", "strconv.ErrSyntax", "strconv.ErrRange", "internal/strconv.uint64pow10", "math/bits.deBruijn32tab", "math/bits.deBruijn64tab"], apart := false, laid := [("math/bits.deBruijn32tab", laid_math_bits_deBruijn32tab), ("math/bits.deBruijn64tab", laid_math_bits_deBruijn64tab), ("internal/strconv.uint64pow10", laid_internal_strconv_uint64pow10), ("strconv.ErrRange", laid_strconv_ErrRange), ("strconv.ErrSyntax", laid_strconv_ErrSyntax)] }
def NumTextsSaid : Prop := numTextsRow.holds Tryd.pinned (OpenSpec.ofChange numTextsSpec)

/-- ITS FALSE NEIGHBOUR: 'it returns false'. Refute it at one input. -/
def numTextsWrong : ChangeSpec := { name := "numTexts", fn := fun _ => fun
  | [d1, d2] => { results := [.lit (.bool false)], args := [d1, d2] }
  | _ => none }
def NumTextsWrongFalsely : Prop := numTextsRow.holds Tryd.pinned (OpenSpec.ofChange numTextsWrong)

/-- 'bridlewaylaw01.NumBack': WHATEVER THE INPUT: true; the input reads as it did. -/
def numBackSpec : ChangeSpec := { name := "numBack", fn := fun _ => fun
  | [d1, d2] => { results := [.lit (.bool true)], args := [d1, d2] }
  | _ => none }
def numBackRow : OpenClaim := { program := "ytnbpioinhjijcaadoor", sum := "958f11a0906d5973c490ed4de2a4a3726204134d2eeefdc56b3c45e52fc60f39", func := "bridleway/bridlewaylaw01.NumBack", spec := "numBack", inPlace := ["math.Float64frombits", "internal/bytealg.IndexByteString", "internal/bytealg.IndexString", "math.Float64bits", "math.archFloor", "math.archTrunc"], named := ["internal/bytealg.MaxLen", "strconv.ErrSyntax", "strconv.ErrRange", "internal/strconv.uint64pow10", "math/bits.deBruijn32tab", "math/bits.deBruijn64tab"], apart := false, laid := [("math/bits.deBruijn32tab", laid_math_bits_deBruijn32tab), ("math/bits.deBruijn64tab", laid_math_bits_deBruijn64tab), ("internal/strconv.uint64pow10", laid_internal_strconv_uint64pow10), ("strconv.ErrRange", laid_strconv_ErrRange), ("strconv.ErrSyntax", laid_strconv_ErrSyntax)] }
def NumBackSaid : Prop := numBackRow.holds Tryd.pinned (OpenSpec.ofChange numBackSpec)

/-- ITS FALSE NEIGHBOUR: 'it returns false'. Refute it at one input. -/
def numBackWrong : ChangeSpec := { name := "numBack", fn := fun _ => fun
  | [d1, d2] => { results := [.lit (.bool false)], args := [d1, d2] }
  | _ => none }
def NumBackWrongFalsely : Prop := numBackRow.holds Tryd.pinned (OpenSpec.ofChange numBackWrong)

/-- 'bridlewaylaw01.NumAgainst': WHATEVER THE INPUT: true; the input reads as it did. -/
def numAgainstSpec : ChangeSpec := { name := "numAgainst", fn := fun _ => fun
  | [d1, d2] => { results := [.lit (.bool true)], args := [d1, d2] }
  | _ => none }
def numAgainstRow : OpenClaim := { program := "ytnbpioinhjijcaadoor", sum := "958f11a0906d5973c490ed4de2a4a3726204134d2eeefdc56b3c45e52fc60f39", func := "bridleway/bridlewaylaw01.NumAgainst", spec := "numAgainst", inPlace := ["math.Float64frombits", "internal/bytealg.IndexByteString", "internal/bytealg.IndexString", "math.Float64bits", "math.archFloor", "math.archTrunc"], named := ["internal/bytealg.MaxLen", "strconv.ErrSyntax", "strconv.ErrRange", "internal/strconv.uint64pow10", "math/bits.deBruijn32tab", "math/bits.deBruijn64tab"], apart := false, laid := [("math/bits.deBruijn32tab", laid_math_bits_deBruijn32tab), ("math/bits.deBruijn64tab", laid_math_bits_deBruijn64tab), ("internal/strconv.uint64pow10", laid_internal_strconv_uint64pow10), ("strconv.ErrRange", laid_strconv_ErrRange), ("strconv.ErrSyntax", laid_strconv_ErrSyntax)] }
def NumAgainstSaid : Prop := numAgainstRow.holds Tryd.pinned (OpenSpec.ofChange numAgainstSpec)

/-- ITS FALSE NEIGHBOUR: 'it returns false'. Refute it at one input. -/
def numAgainstWrong : ChangeSpec := { name := "numAgainst", fn := fun _ => fun
  | [d1, d2] => { results := [.lit (.bool false)], args := [d1, d2] }
  | _ => none }
def NumAgainstWrongFalsely : Prop := numAgainstRow.holds Tryd.pinned (OpenSpec.ofChange numAgainstWrong)

/-- 'bridlewaylaw01.NumSigns': WHATEVER THE INPUT: true; the input reads as it did. -/
def numSignsSpec : ChangeSpec := { name := "numSigns", fn := fun _ => fun
  | [d] => { results := [.lit (.bool true)], args := [d] }
  | _ => none }
def numSignsRow : OpenClaim := { program := "ytnbpioinhjijcaadoor", sum := "958f11a0906d5973c490ed4de2a4a3726204134d2eeefdc56b3c45e52fc60f39", func := "bridleway/bridlewaylaw01.NumSigns", spec := "numSigns", inPlace := ["math.Float64frombits", "internal/bytealg.IndexByteString", "internal/bytealg.IndexString", "math.Float64bits", "math.archFloor", "math.archTrunc"], named := ["internal/bytealg.MaxLen", "strconv.ErrSyntax", "strconv.ErrRange", "internal/strconv.uint64pow10", "math/bits.deBruijn32tab", "math/bits.deBruijn64tab"], apart := false, laid := [("math/bits.deBruijn32tab", laid_math_bits_deBruijn32tab), ("math/bits.deBruijn64tab", laid_math_bits_deBruijn64tab), ("internal/strconv.uint64pow10", laid_internal_strconv_uint64pow10), ("strconv.ErrRange", laid_strconv_ErrRange), ("strconv.ErrSyntax", laid_strconv_ErrSyntax)] }
def NumSignsSaid : Prop := numSignsRow.holds Tryd.pinned (OpenSpec.ofChange numSignsSpec)

/-- ITS FALSE NEIGHBOUR: 'it returns false'. Refute it at one input. -/
def numSignsWrong : ChangeSpec := { name := "numSigns", fn := fun _ => fun
  | [d] => { results := [.lit (.bool false)], args := [d] }
  | _ => none }
def NumSignsWrongFalsely : Prop := numSignsRow.holds Tryd.pinned (OpenSpec.ofChange numSignsWrong)

/-- 'bridlewaylaw01.NumWhole': WHATEVER THE INPUT: true; the input reads as it did. -/
def numWholeSpec : ChangeSpec := { name := "numWhole", fn := fun _ => fun
  | [d] => { results := [.lit (.bool true)], args := [d] }
  | _ => none }
def numWholeRow : OpenClaim := { program := "ytnbpioinhjijcaadoor", sum := "958f11a0906d5973c490ed4de2a4a3726204134d2eeefdc56b3c45e52fc60f39", func := "bridleway/bridlewaylaw01.NumWhole", spec := "numWhole", inPlace := ["math.Float64frombits", "internal/bytealg.IndexByteString", "internal/bytealg.IndexString", "math.Float64bits", "math.archFloor", "math.archTrunc"], recurses := true, named := ["internal/bytealg.MaxLen", "strconv.ErrSyntax", "strconv.ErrRange", "internal/strconv.uint64pow10", "math/bits.deBruijn32tab", "math/bits.deBruijn64tab"], apart := false, laid := [("math/bits.deBruijn32tab", laid_math_bits_deBruijn32tab), ("math/bits.deBruijn64tab", laid_math_bits_deBruijn64tab), ("internal/strconv.uint64pow10", laid_internal_strconv_uint64pow10), ("strconv.ErrRange", laid_strconv_ErrRange), ("strconv.ErrSyntax", laid_strconv_ErrSyntax)] }
def NumWholeSaid : Prop := numWholeRow.holds Tryd.pinned (OpenSpec.ofChange numWholeSpec)

/-- ITS FALSE NEIGHBOUR: 'it returns false'. Refute it at one input. -/
def numWholeWrong : ChangeSpec := { name := "numWhole", fn := fun _ => fun
  | [d] => { results := [.lit (.bool false)], args := [d] }
  | _ => none }
def NumWholeWrongFalsely : Prop := numWholeRow.holds Tryd.pinned (OpenSpec.ofChange numWholeWrong)

/-- 'bridlewaylaw01.NumParsed': WHATEVER THE INPUT: true; the input reads as it did. -/
def numParsedSpec : ChangeSpec := { name := "numParsed", fn := fun _ => fun
  | [d1, d2, d3] => { results := [.lit (.bool true)], args := [d1, d2, d3] }
  | _ => none }
def numParsedRow : OpenClaim := { program := "ytnbpioinhjijcaadoor", sum := "958f11a0906d5973c490ed4de2a4a3726204134d2eeefdc56b3c45e52fc60f39", func := "bridleway/bridlewaylaw01.NumParsed", spec := "numParsed", inPlace := ["math.Float64frombits", "internal/bytealg.IndexByteString", "internal/bytealg.IndexString", "math.Float64bits", "math.archFloor", "math.archTrunc"], recurses := true, named := ["internal/bytealg.MaxLen", "strconv.ErrSyntax", "strconv.ErrRange", "internal/strconv.uint64pow10", "math/bits.deBruijn32tab", "math/bits.deBruijn64tab"], apart := false, laid := [("math/bits.deBruijn32tab", laid_math_bits_deBruijn32tab), ("math/bits.deBruijn64tab", laid_math_bits_deBruijn64tab), ("internal/strconv.uint64pow10", laid_internal_strconv_uint64pow10), ("strconv.ErrRange", laid_strconv_ErrRange), ("strconv.ErrSyntax", laid_strconv_ErrSyntax)] }
def NumParsedSaid : Prop := numParsedRow.holds Tryd.pinned (OpenSpec.ofChange numParsedSpec)

/-- ITS FALSE NEIGHBOUR: 'it returns false'. Refute it at one input. -/
def numParsedWrong : ChangeSpec := { name := "numParsed", fn := fun _ => fun
  | [d1, d2, d3] => { results := [.lit (.bool false)], args := [d1, d2, d3] }
  | _ => none }
def NumParsedWrongFalsely : Prop := numParsedRow.holds Tryd.pinned (OpenSpec.ofChange numParsedWrong)

/-- 'bridlewaylaw01.NumKeys': WHATEVER THE INPUT: true; the input reads as it did. -/
def numKeysSpec : ChangeSpec := { name := "numKeys", fn := fun _ => fun
  | [d1, d2, d3] => { results := [.lit (.bool true)], args := [d1, d2, d3] }
  | _ => none }
def numKeysRow : OpenClaim := { program := "ytnbpioinhjijcaadoor", sum := "958f11a0906d5973c490ed4de2a4a3726204134d2eeefdc56b3c45e52fc60f39", func := "bridleway/bridlewaylaw01.NumKeys", spec := "numKeys", inPlace := ["math.Float64frombits", "internal/bytealg.IndexByteString", "internal/bytealg.IndexString", "math.Float64bits", "math.archFloor", "math.archTrunc"], named := ["internal/bytealg.MaxLen", "strconv.ErrSyntax", "strconv.ErrRange", "internal/strconv.uint64pow10", "math/bits.deBruijn32tab", "math/bits.deBruijn64tab"], apart := false, laid := [("math/bits.deBruijn32tab", laid_math_bits_deBruijn32tab), ("math/bits.deBruijn64tab", laid_math_bits_deBruijn64tab), ("internal/strconv.uint64pow10", laid_internal_strconv_uint64pow10), ("strconv.ErrRange", laid_strconv_ErrRange), ("strconv.ErrSyntax", laid_strconv_ErrSyntax)] }
def NumKeysSaid : Prop := numKeysRow.holds Tryd.pinned (OpenSpec.ofChange numKeysSpec)

/-- ITS FALSE NEIGHBOUR: 'it returns false'. Refute it at one input. -/
def numKeysWrong : ChangeSpec := { name := "numKeys", fn := fun _ => fun
  | [d1, d2, d3] => { results := [.lit (.bool false)], args := [d1, d2, d3] }
  | _ => none }
def NumKeysWrongFalsely : Prop := numKeysRow.holds Tryd.pinned (OpenSpec.ofChange numKeysWrong)

/-- 'bridlewaylaw01.NumSteps': WHATEVER THE INPUT: true; the input reads as it did. -/
def numStepsSpec : ChangeSpec := { name := "numSteps", fn := fun _ => fun
  | [d1, d2] => { results := [.lit (.bool true)], args := [d1, d2] }
  | _ => none }
def numStepsRow : OpenClaim := { program := "ytnbpioinhjijcaadoor", sum := "958f11a0906d5973c490ed4de2a4a3726204134d2eeefdc56b3c45e52fc60f39", func := "bridleway/bridlewaylaw01.NumSteps", spec := "numSteps", inPlace := ["math.Float64frombits", "internal/bytealg.IndexByteString", "internal/bytealg.IndexString", "math.Float64bits", "math.archFloor", "math.archTrunc"], named := ["internal/bytealg.MaxLen", "strconv.ErrSyntax", "strconv.ErrRange", "internal/strconv.uint64pow10", "math/bits.deBruijn32tab", "math/bits.deBruijn64tab"], apart := false, laid := [("math/bits.deBruijn32tab", laid_math_bits_deBruijn32tab), ("math/bits.deBruijn64tab", laid_math_bits_deBruijn64tab), ("internal/strconv.uint64pow10", laid_internal_strconv_uint64pow10), ("strconv.ErrRange", laid_strconv_ErrRange), ("strconv.ErrSyntax", laid_strconv_ErrSyntax)] }
def NumStepsSaid : Prop := numStepsRow.holds Tryd.pinned (OpenSpec.ofChange numStepsSpec)

/-- ITS FALSE NEIGHBOUR: 'it returns false'. Refute it at one input. -/
def numStepsWrong : ChangeSpec := { name := "numSteps", fn := fun _ => fun
  | [d1, d2] => { results := [.lit (.bool false)], args := [d1, d2] }
  | _ => none }
def NumStepsWrongFalsely : Prop := numStepsRow.holds Tryd.pinned (OpenSpec.ofChange numStepsWrong)

/- THE SECOND FORM. 'bulk': how many values and letters a reading holds, each counted each time it is reached (what is shared counts as often as it is met; a slice's spare places count too). A statement '..UptoSaid' is the law's where the arguments, and the package variables that the reading takes, are together of bulk at most 1048576: NARROWER than '..Said'. Prove '..Said' where nothing that the law and all that it calls make is longer than what came in: it says more and counts as full. Else prove '..UptoSaid'. A law counts once. -/
mutual
def uptoBulk {H : Type} : DataW H → Nat
  | .lit (.string bytes) => bytes.length + 1
  | .lit _ => 1
  | .nil => 1
  | .ptr d => uptoBulk d + 1
  | .slice elems spare => uptoBulkAll elems + uptoBulkAll spare + 1
  | .agg parts => uptoBulkAll parts + 1
  | .iface _ d => uptoBulk d + 1
  | .map entries => uptoBulkEntries entries + 1
  | .held _ => 1
def uptoBulkAll {H : Type} : List (DataW H) → Nat
  | [] => 0
  | d :: r => uptoBulk d + uptoBulkAll r
def uptoBulkEntries {H : Type} : List (Lit × DataW H) → Nat
  | [] => 0
  | x :: r => uptoBulkEntry x + uptoBulkEntries r
def uptoBulkEntry {H : Type} : Lit × DataW H → Nat
  | (.string bytes, d) => bytes.length + uptoBulk d + 1
  | (_, d) => uptoBulk d + 1
 end
def uptoSmall : (H : Type) → List (DataW H) → Bool := fun _ ds => decide (uptoBulkAll ds ≤ 1048576)
def OpenSpec.upto (s : _root_.Go.ChangeSpec) : _root_.Go.OpenSpec := { _root_.Go.OpenSpec.ofChange s with cond := some uptoSmall }

/-- 'bridlewaylaw01.NumOrders', WHERE WHAT IT READS IS OF BULK AT MOST 1048576: true; the input reads as it did. -/
def numOrdersUptoRow : OpenClaim := { program := "ytnbpioinhjijcaadoor", sum := "958f11a0906d5973c490ed4de2a4a3726204134d2eeefdc56b3c45e52fc60f39", func := "bridleway/bridlewaylaw01.NumOrders", spec := "numOrders", inPlace := ["math.Float64frombits", "internal/bytealg.IndexByteString", "internal/bytealg.IndexString", "math.Float64bits", "math.archFloor", "math.archTrunc"], named := ["internal/bytealg.MaxLen", "strconv.ErrSyntax", "strconv.ErrRange", "internal/strconv.uint64pow10", "math/bits.deBruijn32tab", "math/bits.deBruijn64tab"], apart := false, laid := [("math/bits.deBruijn32tab", laid_math_bits_deBruijn32tab), ("math/bits.deBruijn64tab", laid_math_bits_deBruijn64tab), ("internal/strconv.uint64pow10", laid_internal_strconv_uint64pow10), ("strconv.ErrRange", laid_strconv_ErrRange), ("strconv.ErrSyntax", laid_strconv_ErrSyntax)], narrowed := true }
def NumOrdersUptoSaid : Prop := numOrdersUptoRow.holds Tryd.pinned (OpenSpec.upto numOrdersSpec)

/-- 'bridlewaylaw01.NumTexts', WHERE WHAT IT READS IS OF BULK AT MOST 1048576: true; the input reads as it did. -/
def numTextsUptoRow : OpenClaim := { program := "ytnbpioinhjijcaadoor", sum := "958f11a0906d5973c490ed4de2a4a3726204134d2eeefdc56b3c45e52fc60f39", func := "bridleway/bridlewaylaw01.NumTexts", spec := "numTexts", inPlace := ["math.Float64frombits", "internal/bytealg.IndexByteString", "internal/bytealg.IndexString", "math.Float64bits", "math.archFloor", "math.archTrunc"], recurses := true, named := ["internal/bytealg.MaxLen", "strconv.ErrSyntax", "strconv.ErrRange", "internal/strconv.uint64pow10", "math/bits.deBruijn32tab", "math/bits.deBruijn64tab"], apart := false, laid := [("math/bits.deBruijn32tab", laid_math_bits_deBruijn32tab), ("math/bits.deBruijn64tab", laid_math_bits_deBruijn64tab), ("internal/strconv.uint64pow10", laid_internal_strconv_uint64pow10), ("strconv.ErrRange", laid_strconv_ErrRange), ("strconv.ErrSyntax", laid_strconv_ErrSyntax)], narrowed := true }
def NumTextsUptoSaid : Prop := numTextsUptoRow.holds Tryd.pinned (OpenSpec.upto numTextsSpec)

/-- 'bridlewaylaw01.NumBack', WHERE WHAT IT READS IS OF BULK AT MOST 1048576: true; the input reads as it did. -/
def numBackUptoRow : OpenClaim := { program := "ytnbpioinhjijcaadoor", sum := "958f11a0906d5973c490ed4de2a4a3726204134d2eeefdc56b3c45e52fc60f39", func := "bridleway/bridlewaylaw01.NumBack", spec := "numBack", inPlace := ["math.Float64frombits", "internal/bytealg.IndexByteString", "internal/bytealg.IndexString", "math.Float64bits", "math.archFloor", "math.archTrunc"], named := ["internal/bytealg.MaxLen", "strconv.ErrSyntax", "strconv.ErrRange", "internal/strconv.uint64pow10", "math/bits.deBruijn32tab", "math/bits.deBruijn64tab"], apart := false, laid := [("math/bits.deBruijn32tab", laid_math_bits_deBruijn32tab), ("math/bits.deBruijn64tab", laid_math_bits_deBruijn64tab), ("internal/strconv.uint64pow10", laid_internal_strconv_uint64pow10), ("strconv.ErrRange", laid_strconv_ErrRange), ("strconv.ErrSyntax", laid_strconv_ErrSyntax)], narrowed := true }
def NumBackUptoSaid : Prop := numBackUptoRow.holds Tryd.pinned (OpenSpec.upto numBackSpec)

/-- 'bridlewaylaw01.NumAgainst', WHERE WHAT IT READS IS OF BULK AT MOST 1048576: true; the input reads as it did. -/
def numAgainstUptoRow : OpenClaim := { program := "ytnbpioinhjijcaadoor", sum := "958f11a0906d5973c490ed4de2a4a3726204134d2eeefdc56b3c45e52fc60f39", func := "bridleway/bridlewaylaw01.NumAgainst", spec := "numAgainst", inPlace := ["math.Float64frombits", "internal/bytealg.IndexByteString", "internal/bytealg.IndexString", "math.Float64bits", "math.archFloor", "math.archTrunc"], named := ["internal/bytealg.MaxLen", "strconv.ErrSyntax", "strconv.ErrRange", "internal/strconv.uint64pow10", "math/bits.deBruijn32tab", "math/bits.deBruijn64tab"], apart := false, laid := [("math/bits.deBruijn32tab", laid_math_bits_deBruijn32tab), ("math/bits.deBruijn64tab", laid_math_bits_deBruijn64tab), ("internal/strconv.uint64pow10", laid_internal_strconv_uint64pow10), ("strconv.ErrRange", laid_strconv_ErrRange), ("strconv.ErrSyntax", laid_strconv_ErrSyntax)], narrowed := true }
def NumAgainstUptoSaid : Prop := numAgainstUptoRow.holds Tryd.pinned (OpenSpec.upto numAgainstSpec)

/-- 'bridlewaylaw01.NumSigns', WHERE WHAT IT READS IS OF BULK AT MOST 1048576: true; the input reads as it did. -/
def numSignsUptoRow : OpenClaim := { program := "ytnbpioinhjijcaadoor", sum := "958f11a0906d5973c490ed4de2a4a3726204134d2eeefdc56b3c45e52fc60f39", func := "bridleway/bridlewaylaw01.NumSigns", spec := "numSigns", inPlace := ["math.Float64frombits", "internal/bytealg.IndexByteString", "internal/bytealg.IndexString", "math.Float64bits", "math.archFloor", "math.archTrunc"], named := ["internal/bytealg.MaxLen", "strconv.ErrSyntax", "strconv.ErrRange", "internal/strconv.uint64pow10", "math/bits.deBruijn32tab", "math/bits.deBruijn64tab"], apart := false, laid := [("math/bits.deBruijn32tab", laid_math_bits_deBruijn32tab), ("math/bits.deBruijn64tab", laid_math_bits_deBruijn64tab), ("internal/strconv.uint64pow10", laid_internal_strconv_uint64pow10), ("strconv.ErrRange", laid_strconv_ErrRange), ("strconv.ErrSyntax", laid_strconv_ErrSyntax)], narrowed := true }
def NumSignsUptoSaid : Prop := numSignsUptoRow.holds Tryd.pinned (OpenSpec.upto numSignsSpec)

/-- 'bridlewaylaw01.NumWhole', WHERE WHAT IT READS IS OF BULK AT MOST 1048576: true; the input reads as it did. -/
def numWholeUptoRow : OpenClaim := { program := "ytnbpioinhjijcaadoor", sum := "958f11a0906d5973c490ed4de2a4a3726204134d2eeefdc56b3c45e52fc60f39", func := "bridleway/bridlewaylaw01.NumWhole", spec := "numWhole", inPlace := ["math.Float64frombits", "internal/bytealg.IndexByteString", "internal/bytealg.IndexString", "math.Float64bits", "math.archFloor", "math.archTrunc"], recurses := true, named := ["internal/bytealg.MaxLen", "strconv.ErrSyntax", "strconv.ErrRange", "internal/strconv.uint64pow10", "math/bits.deBruijn32tab", "math/bits.deBruijn64tab"], apart := false, laid := [("math/bits.deBruijn32tab", laid_math_bits_deBruijn32tab), ("math/bits.deBruijn64tab", laid_math_bits_deBruijn64tab), ("internal/strconv.uint64pow10", laid_internal_strconv_uint64pow10), ("strconv.ErrRange", laid_strconv_ErrRange), ("strconv.ErrSyntax", laid_strconv_ErrSyntax)], narrowed := true }
def NumWholeUptoSaid : Prop := numWholeUptoRow.holds Tryd.pinned (OpenSpec.upto numWholeSpec)

/-- 'bridlewaylaw01.NumParsed', WHERE WHAT IT READS IS OF BULK AT MOST 1048576: true; the input reads as it did. -/
def numParsedUptoRow : OpenClaim := { program := "ytnbpioinhjijcaadoor", sum := "958f11a0906d5973c490ed4de2a4a3726204134d2eeefdc56b3c45e52fc60f39", func := "bridleway/bridlewaylaw01.NumParsed", spec := "numParsed", inPlace := ["math.Float64frombits", "internal/bytealg.IndexByteString", "internal/bytealg.IndexString", "math.Float64bits", "math.archFloor", "math.archTrunc"], recurses := true, named := ["internal/bytealg.MaxLen", "strconv.ErrSyntax", "strconv.ErrRange", "internal/strconv.uint64pow10", "math/bits.deBruijn32tab", "math/bits.deBruijn64tab"], apart := false, laid := [("math/bits.deBruijn32tab", laid_math_bits_deBruijn32tab), ("math/bits.deBruijn64tab", laid_math_bits_deBruijn64tab), ("internal/strconv.uint64pow10", laid_internal_strconv_uint64pow10), ("strconv.ErrRange", laid_strconv_ErrRange), ("strconv.ErrSyntax", laid_strconv_ErrSyntax)], narrowed := true }
def NumParsedUptoSaid : Prop := numParsedUptoRow.holds Tryd.pinned (OpenSpec.upto numParsedSpec)

/-- 'bridlewaylaw01.NumKeys', WHERE WHAT IT READS IS OF BULK AT MOST 1048576: true; the input reads as it did. -/
def numKeysUptoRow : OpenClaim := { program := "ytnbpioinhjijcaadoor", sum := "958f11a0906d5973c490ed4de2a4a3726204134d2eeefdc56b3c45e52fc60f39", func := "bridleway/bridlewaylaw01.NumKeys", spec := "numKeys", inPlace := ["math.Float64frombits", "internal/bytealg.IndexByteString", "internal/bytealg.IndexString", "math.Float64bits", "math.archFloor", "math.archTrunc"], named := ["internal/bytealg.MaxLen", "strconv.ErrSyntax", "strconv.ErrRange", "internal/strconv.uint64pow10", "math/bits.deBruijn32tab", "math/bits.deBruijn64tab"], apart := false, laid := [("math/bits.deBruijn32tab", laid_math_bits_deBruijn32tab), ("math/bits.deBruijn64tab", laid_math_bits_deBruijn64tab), ("internal/strconv.uint64pow10", laid_internal_strconv_uint64pow10), ("strconv.ErrRange", laid_strconv_ErrRange), ("strconv.ErrSyntax", laid_strconv_ErrSyntax)], narrowed := true }
def NumKeysUptoSaid : Prop := numKeysUptoRow.holds Tryd.pinned (OpenSpec.upto numKeysSpec)

/-- 'bridlewaylaw01.NumSteps', WHERE WHAT IT READS IS OF BULK AT MOST 1048576: true; the input reads as it did. -/
def numStepsUptoRow : OpenClaim := { program := "ytnbpioinhjijcaadoor", sum := "958f11a0906d5973c490ed4de2a4a3726204134d2eeefdc56b3c45e52fc60f39", func := "bridleway/bridlewaylaw01.NumSteps", spec := "numSteps", inPlace := ["math.Float64frombits", "internal/bytealg.IndexByteString", "internal/bytealg.IndexString", "math.Float64bits", "math.archFloor", "math.archTrunc"], named := ["internal/bytealg.MaxLen", "strconv.ErrSyntax", "strconv.ErrRange", "internal/strconv.uint64pow10", "math/bits.deBruijn32tab", "math/bits.deBruijn64tab"], apart := false, laid := [("math/bits.deBruijn32tab", laid_math_bits_deBruijn32tab), ("math/bits.deBruijn64tab", laid_math_bits_deBruijn64tab), ("internal/strconv.uint64pow10", laid_internal_strconv_uint64pow10), ("strconv.ErrRange", laid_strconv_ErrRange), ("strconv.ErrSyntax", laid_strconv_ErrSyntax)], narrowed := true }
def NumStepsUptoSaid : Prop := numStepsUptoRow.holds Tryd.pinned (OpenSpec.upto numStepsSpec)

end Rows
end Go.Proofs.YtnbpioinhjijcaaDoor
