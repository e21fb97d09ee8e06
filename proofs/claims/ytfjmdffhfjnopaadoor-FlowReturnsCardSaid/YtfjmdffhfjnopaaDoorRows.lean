/-
  NARROWER THAN 'FOR EVERY INPUT', by the rows' own cells (each row's printed sentence says how): FlowHeights: laid · FlowJudged: laid · FlowMet: laid · FlowMoved: laid · FlowNamed: laid · FlowStraight: laid · FlowFresh: laid · FlowWalks: laid · FlowMost: laid · FlowReturns: laid · FlowAll: laid.
  DERIVED. THE GIVEN ROWS OF THIS SEAT. 11 by the template 'for every input the law returns true; each argument reads behind the call as it read before'; 0 by the template 'total and deterministic' (their statements: YtfjmdffhfjnopaaDoorTotals.lean).
  GIVEN WITH THE SEED: the statements are not yours to turn. If you find one false, say at which input.
  Laid BY PROGRAM, IN A SANDBOX (cutbox-rows.mjs): the forced cells as the released guide's own fill.sh prints them over the translation f47d5645b6912409… (all of the seat's roots in one cut). By AI agents, Wed Nov 11 2026. No macro, syntax, notation, axiom, sorry.
-/
import Derived.Test.YtfjmdffhfjnopaaDoorChecked
import GoSem.Claim
import GoSem.ClaimJoined
import GoSem.ClaimMapViews
import Derived.JoinedTies
import Derived.KernelRfl
namespace Go.Proofs.YtfjmdffhfjnopaaDoor
/- THE CELL 'sum', in the pinned program and in every row, IS THE sha256 OF THE DUMP (.gsa) THAT YtfjmdffhfjnopaaDoorProg.lean LOADS. Nothing in Lean hashes anything: it is a label: what it is worth is what the hold of that sum in a sandbox is worth. -/
noncomputable def Tryd.pinned : Pinned := { name := "ytfjmdffhfjnopaadoor", sum := "f47d5645b691240972f6b759adcb6f266a3b439373ec76e7bcff7dd80251bcce", checked := Tryd.checked }
namespace Rows
def none {H : Type} : Left H := { results := [], args := [] }

/- WHAT THE LISTED PACKAGE-LEVEL VARIABLES READ AS WHEN THE CALL BEGINS. Each datum BY PROGRAM (the guide's laid-datum.mjs) off the statement by which the dump's own 'gosem.cut.vars' lays the variable. In a bare row this is a premise. The card (YtfjmdffhfjnopaaDoorCards.lean) ties it to the program's text. -/
def laid_math_bits_deBruijn32tab {H : Type} : DataW H := .agg [.lit (.int .u8 0), .lit (.int .u8 1), .lit (.int .u8 28), .lit (.int .u8 2), .lit (.int .u8 29), .lit (.int .u8 14), .lit (.int .u8 24), .lit (.int .u8 3), .lit (.int .u8 30), .lit (.int .u8 22), .lit (.int .u8 20), .lit (.int .u8 15), .lit (.int .u8 25), .lit (.int .u8 17), .lit (.int .u8 4), .lit (.int .u8 8), .lit (.int .u8 31), .lit (.int .u8 27), .lit (.int .u8 13), .lit (.int .u8 23), .lit (.int .u8 21), .lit (.int .u8 19), .lit (.int .u8 16), .lit (.int .u8 7), .lit (.int .u8 26), .lit (.int .u8 12), .lit (.int .u8 18), .lit (.int .u8 6), .lit (.int .u8 11), .lit (.int .u8 5), .lit (.int .u8 10), .lit (.int .u8 9)]
def laid_math_bits_deBruijn64tab {H : Type} : DataW H := .agg [.lit (.int .u8 0), .lit (.int .u8 1), .lit (.int .u8 56), .lit (.int .u8 2), .lit (.int .u8 57), .lit (.int .u8 49), .lit (.int .u8 28), .lit (.int .u8 3), .lit (.int .u8 61), .lit (.int .u8 58), .lit (.int .u8 42), .lit (.int .u8 50), .lit (.int .u8 38), .lit (.int .u8 29), .lit (.int .u8 17), .lit (.int .u8 4), .lit (.int .u8 62), .lit (.int .u8 47), .lit (.int .u8 59), .lit (.int .u8 36), .lit (.int .u8 45), .lit (.int .u8 43), .lit (.int .u8 51), .lit (.int .u8 22), .lit (.int .u8 53), .lit (.int .u8 39), .lit (.int .u8 33), .lit (.int .u8 30), .lit (.int .u8 24), .lit (.int .u8 18), .lit (.int .u8 12), .lit (.int .u8 5), .lit (.int .u8 63), .lit (.int .u8 55), .lit (.int .u8 48), .lit (.int .u8 27), .lit (.int .u8 60), .lit (.int .u8 41), .lit (.int .u8 37), .lit (.int .u8 16), .lit (.int .u8 46), .lit (.int .u8 35), .lit (.int .u8 44), .lit (.int .u8 21), .lit (.int .u8 52), .lit (.int .u8 32), .lit (.int .u8 23), .lit (.int .u8 11), .lit (.int .u8 54), .lit (.int .u8 26), .lit (.int .u8 40), .lit (.int .u8 15), .lit (.int .u8 34), .lit (.int .u8 20), .lit (.int .u8 31), .lit (.int .u8 10), .lit (.int .u8 25), .lit (.int .u8 14), .lit (.int .u8 19), .lit (.int .u8 9), .lit (.int .u8 13), .lit (.int .u8 8), .lit (.int .u8 7), .lit (.int .u8 6)]
def laid_internal_strconv_uint64pow10 {H : Type} : DataW H := .agg [.lit (.int .u64 1), .lit (.int .u64 10), .lit (.int .u64 100), .lit (.int .u64 1000), .lit (.int .u64 10000), .lit (.int .u64 100000), .lit (.int .u64 1000000), .lit (.int .u64 10000000), .lit (.int .u64 100000000), .lit (.int .u64 1000000000), .lit (.int .u64 10000000000), .lit (.int .u64 100000000000), .lit (.int .u64 1000000000000), .lit (.int .u64 10000000000000), .lit (.int .u64 100000000000000), .lit (.int .u64 1000000000000000), .lit (.int .u64 10000000000000000), .lit (.int .u64 100000000000000000), .lit (.int .u64 1000000000000000000), .lit (.int .u64 10000000000000000000)]

/-- 'vouchlaw7.FlowHeights': WHATEVER THE INPUT: true; the input reads as it did. -/
def flowHeightsSpec : ChangeSpec := { name := "flowHeights", fn := fun _ => fun
  | [d1, d2, d3] => { results := [.lit (.bool true)], args := [d1, d2, d3] }
  | _ => none }
def flowHeightsRow : OpenClaim := { program := "ytfjmdffhfjnopaadoor", sum := "f47d5645b691240972f6b759adcb6f266a3b439373ec76e7bcff7dd80251bcce", func := "vouch/vouchlaw7.FlowHeights", spec := "flowHeights", unfollowed := true, recurses := true, named := ["internal/strconv.uint64pow10", "math/bits.deBruijn32tab", "math/bits.deBruijn64tab"], apart := false, laid := [("math/bits.deBruijn32tab", laid_math_bits_deBruijn32tab), ("math/bits.deBruijn64tab", laid_math_bits_deBruijn64tab), ("internal/strconv.uint64pow10", laid_internal_strconv_uint64pow10)] }
def FlowHeightsSaid : Prop := flowHeightsRow.holds Tryd.pinned (OpenSpec.ofChange flowHeightsSpec)

/-- ITS FALSE NEIGHBOUR: 'it returns false'. Refute it at one input. -/
def flowHeightsWrong : ChangeSpec := { name := "flowHeights", fn := fun _ => fun
  | [d1, d2, d3] => { results := [.lit (.bool false)], args := [d1, d2, d3] }
  | _ => none }
def FlowHeightsWrongFalsely : Prop := flowHeightsRow.holds Tryd.pinned (OpenSpec.ofChange flowHeightsWrong)

/-- 'vouchlaw7.FlowJudged': WHATEVER THE INPUT: true; the input reads as it did. -/
def flowJudgedSpec : ChangeSpec := { name := "flowJudged", fn := fun _ => fun
  | [d1, d2, d3] => { results := [.lit (.bool true)], args := [d1, d2, d3] }
  | _ => none }
def flowJudgedRow : OpenClaim := { program := "ytfjmdffhfjnopaadoor", sum := "f47d5645b691240972f6b759adcb6f266a3b439373ec76e7bcff7dd80251bcce", func := "vouch/vouchlaw7.FlowJudged", spec := "flowJudged", unfollowed := true, recurses := true, named := ["internal/strconv.uint64pow10", "math/bits.deBruijn32tab", "math/bits.deBruijn64tab"], apart := false, laid := [("math/bits.deBruijn32tab", laid_math_bits_deBruijn32tab), ("math/bits.deBruijn64tab", laid_math_bits_deBruijn64tab), ("internal/strconv.uint64pow10", laid_internal_strconv_uint64pow10)] }
def FlowJudgedSaid : Prop := flowJudgedRow.holds Tryd.pinned (OpenSpec.ofChange flowJudgedSpec)

/-- ITS FALSE NEIGHBOUR: 'it returns false'. Refute it at one input. -/
def flowJudgedWrong : ChangeSpec := { name := "flowJudged", fn := fun _ => fun
  | [d1, d2, d3] => { results := [.lit (.bool false)], args := [d1, d2, d3] }
  | _ => none }
def FlowJudgedWrongFalsely : Prop := flowJudgedRow.holds Tryd.pinned (OpenSpec.ofChange flowJudgedWrong)

/-- 'vouchlaw7.FlowMet': WHATEVER THE INPUT: true; the input reads as it did. -/
def flowMetSpec : ChangeSpec := { name := "flowMet", fn := fun _ => fun
  | [d1, d2, d3, d4] => { results := [.lit (.bool true)], args := [d1, d2, d3, d4] }
  | _ => none }
def flowMetRow : OpenClaim := { program := "ytfjmdffhfjnopaadoor", sum := "f47d5645b691240972f6b759adcb6f266a3b439373ec76e7bcff7dd80251bcce", func := "vouch/vouchlaw7.FlowMet", spec := "flowMet", unfollowed := true, recurses := true, named := ["internal/strconv.uint64pow10", "math/bits.deBruijn32tab", "math/bits.deBruijn64tab"], apart := false, laid := [("math/bits.deBruijn32tab", laid_math_bits_deBruijn32tab), ("math/bits.deBruijn64tab", laid_math_bits_deBruijn64tab), ("internal/strconv.uint64pow10", laid_internal_strconv_uint64pow10)] }
def FlowMetSaid : Prop := flowMetRow.holds Tryd.pinned (OpenSpec.ofChange flowMetSpec)

/-- ITS FALSE NEIGHBOUR: 'it returns false'. Refute it at one input. -/
def flowMetWrong : ChangeSpec := { name := "flowMet", fn := fun _ => fun
  | [d1, d2, d3, d4] => { results := [.lit (.bool false)], args := [d1, d2, d3, d4] }
  | _ => none }
def FlowMetWrongFalsely : Prop := flowMetRow.holds Tryd.pinned (OpenSpec.ofChange flowMetWrong)

/-- 'vouchlaw7.FlowMoved': WHATEVER THE INPUT: true; the input reads as it did. -/
def flowMovedSpec : ChangeSpec := { name := "flowMoved", fn := fun _ => fun
  | [d1, d2, d3] => { results := [.lit (.bool true)], args := [d1, d2, d3] }
  | _ => none }
def flowMovedRow : OpenClaim := { program := "ytfjmdffhfjnopaadoor", sum := "f47d5645b691240972f6b759adcb6f266a3b439373ec76e7bcff7dd80251bcce", func := "vouch/vouchlaw7.FlowMoved", spec := "flowMoved", unfollowed := true, recurses := true, named := ["internal/strconv.uint64pow10", "math/bits.deBruijn32tab", "math/bits.deBruijn64tab"], apart := false, laid := [("math/bits.deBruijn32tab", laid_math_bits_deBruijn32tab), ("math/bits.deBruijn64tab", laid_math_bits_deBruijn64tab), ("internal/strconv.uint64pow10", laid_internal_strconv_uint64pow10)] }
def FlowMovedSaid : Prop := flowMovedRow.holds Tryd.pinned (OpenSpec.ofChange flowMovedSpec)

/-- ITS FALSE NEIGHBOUR: 'it returns false'. Refute it at one input. -/
def flowMovedWrong : ChangeSpec := { name := "flowMoved", fn := fun _ => fun
  | [d1, d2, d3] => { results := [.lit (.bool false)], args := [d1, d2, d3] }
  | _ => none }
def FlowMovedWrongFalsely : Prop := flowMovedRow.holds Tryd.pinned (OpenSpec.ofChange flowMovedWrong)

/-- 'vouchlaw7.FlowNamed': WHATEVER THE INPUT: true; the input reads as it did. -/
def flowNamedSpec : ChangeSpec := { name := "flowNamed", fn := fun _ => fun
  | [d1, d2, d3, d4, d5, d6] => { results := [.lit (.bool true)], args := [d1, d2, d3, d4, d5, d6] }
  | _ => none }
def flowNamedRow : OpenClaim := { program := "ytfjmdffhfjnopaadoor", sum := "f47d5645b691240972f6b759adcb6f266a3b439373ec76e7bcff7dd80251bcce", func := "vouch/vouchlaw7.FlowNamed", spec := "flowNamed", unfollowed := true, recurses := true, named := ["internal/strconv.uint64pow10", "math/bits.deBruijn32tab", "math/bits.deBruijn64tab"], apart := false, laid := [("math/bits.deBruijn32tab", laid_math_bits_deBruijn32tab), ("math/bits.deBruijn64tab", laid_math_bits_deBruijn64tab), ("internal/strconv.uint64pow10", laid_internal_strconv_uint64pow10)] }
def FlowNamedSaid : Prop := flowNamedRow.holds Tryd.pinned (OpenSpec.ofChange flowNamedSpec)

/-- ITS FALSE NEIGHBOUR: 'it returns false'. Refute it at one input. -/
def flowNamedWrong : ChangeSpec := { name := "flowNamed", fn := fun _ => fun
  | [d1, d2, d3, d4, d5, d6] => { results := [.lit (.bool false)], args := [d1, d2, d3, d4, d5, d6] }
  | _ => none }
def FlowNamedWrongFalsely : Prop := flowNamedRow.holds Tryd.pinned (OpenSpec.ofChange flowNamedWrong)

/-- 'vouchlaw7.FlowStraight': WHATEVER THE INPUT: true; the input reads as it did. -/
def flowStraightSpec : ChangeSpec := { name := "flowStraight", fn := fun _ => fun
  | [d] => { results := [.lit (.bool true)], args := [d] }
  | _ => none }
def flowStraightRow : OpenClaim := { program := "ytfjmdffhfjnopaadoor", sum := "f47d5645b691240972f6b759adcb6f266a3b439373ec76e7bcff7dd80251bcce", func := "vouch/vouchlaw7.FlowStraight", spec := "flowStraight", unfollowed := true, recurses := true, named := ["internal/strconv.uint64pow10", "math/bits.deBruijn32tab", "math/bits.deBruijn64tab"], apart := false, laid := [("math/bits.deBruijn32tab", laid_math_bits_deBruijn32tab), ("math/bits.deBruijn64tab", laid_math_bits_deBruijn64tab), ("internal/strconv.uint64pow10", laid_internal_strconv_uint64pow10)] }
def FlowStraightSaid : Prop := flowStraightRow.holds Tryd.pinned (OpenSpec.ofChange flowStraightSpec)

/-- ITS FALSE NEIGHBOUR: 'it returns false'. Refute it at one input. -/
def flowStraightWrong : ChangeSpec := { name := "flowStraight", fn := fun _ => fun
  | [d] => { results := [.lit (.bool false)], args := [d] }
  | _ => none }
def FlowStraightWrongFalsely : Prop := flowStraightRow.holds Tryd.pinned (OpenSpec.ofChange flowStraightWrong)

/-- 'vouchlaw7.FlowFresh': WHATEVER THE INPUT: true; the input reads as it did. -/
def flowFreshSpec : ChangeSpec := { name := "flowFresh", fn := fun _ => fun
  | [d1, d2, d3, d4] => { results := [.lit (.bool true)], args := [d1, d2, d3, d4] }
  | _ => none }
def flowFreshRow : OpenClaim := { program := "ytfjmdffhfjnopaadoor", sum := "f47d5645b691240972f6b759adcb6f266a3b439373ec76e7bcff7dd80251bcce", func := "vouch/vouchlaw7.FlowFresh", spec := "flowFresh", unfollowed := true, recurses := true, named := ["internal/strconv.uint64pow10", "math/bits.deBruijn32tab", "math/bits.deBruijn64tab"], apart := false, laid := [("math/bits.deBruijn32tab", laid_math_bits_deBruijn32tab), ("math/bits.deBruijn64tab", laid_math_bits_deBruijn64tab), ("internal/strconv.uint64pow10", laid_internal_strconv_uint64pow10)] }
def FlowFreshSaid : Prop := flowFreshRow.holds Tryd.pinned (OpenSpec.ofChange flowFreshSpec)

/-- ITS FALSE NEIGHBOUR: 'it returns false'. Refute it at one input. -/
def flowFreshWrong : ChangeSpec := { name := "flowFresh", fn := fun _ => fun
  | [d1, d2, d3, d4] => { results := [.lit (.bool false)], args := [d1, d2, d3, d4] }
  | _ => none }
def FlowFreshWrongFalsely : Prop := flowFreshRow.holds Tryd.pinned (OpenSpec.ofChange flowFreshWrong)

/-- 'vouchlaw7.FlowWalks': WHATEVER THE INPUT: true; the input reads as it did. -/
def flowWalksSpec : ChangeSpec := { name := "flowWalks", fn := fun _ => fun
  | [d1, d2, d3, d4] => { results := [.lit (.bool true)], args := [d1, d2, d3, d4] }
  | _ => none }
def flowWalksRow : OpenClaim := { program := "ytfjmdffhfjnopaadoor", sum := "f47d5645b691240972f6b759adcb6f266a3b439373ec76e7bcff7dd80251bcce", func := "vouch/vouchlaw7.FlowWalks", spec := "flowWalks", unfollowed := true, recurses := true, named := ["internal/strconv.uint64pow10", "math/bits.deBruijn32tab", "math/bits.deBruijn64tab"], apart := false, laid := [("math/bits.deBruijn32tab", laid_math_bits_deBruijn32tab), ("math/bits.deBruijn64tab", laid_math_bits_deBruijn64tab), ("internal/strconv.uint64pow10", laid_internal_strconv_uint64pow10)] }
def FlowWalksSaid : Prop := flowWalksRow.holds Tryd.pinned (OpenSpec.ofChange flowWalksSpec)

/-- ITS FALSE NEIGHBOUR: 'it returns false'. Refute it at one input. -/
def flowWalksWrong : ChangeSpec := { name := "flowWalks", fn := fun _ => fun
  | [d1, d2, d3, d4] => { results := [.lit (.bool false)], args := [d1, d2, d3, d4] }
  | _ => none }
def FlowWalksWrongFalsely : Prop := flowWalksRow.holds Tryd.pinned (OpenSpec.ofChange flowWalksWrong)

/-- 'vouchlaw7.FlowMost': WHATEVER THE INPUT: true; the input reads as it did. -/
def flowMostSpec : ChangeSpec := { name := "flowMost", fn := fun _ => fun
  | [d] => { results := [.lit (.bool true)], args := [d] }
  | _ => none }
def flowMostRow : OpenClaim := { program := "ytfjmdffhfjnopaadoor", sum := "f47d5645b691240972f6b759adcb6f266a3b439373ec76e7bcff7dd80251bcce", func := "vouch/vouchlaw7.FlowMost", spec := "flowMost", unfollowed := true, recurses := true, named := ["internal/strconv.uint64pow10", "math/bits.deBruijn32tab", "math/bits.deBruijn64tab"], apart := false, laid := [("math/bits.deBruijn32tab", laid_math_bits_deBruijn32tab), ("math/bits.deBruijn64tab", laid_math_bits_deBruijn64tab), ("internal/strconv.uint64pow10", laid_internal_strconv_uint64pow10)] }
def FlowMostSaid : Prop := flowMostRow.holds Tryd.pinned (OpenSpec.ofChange flowMostSpec)

/-- ITS FALSE NEIGHBOUR: 'it returns false'. Refute it at one input. -/
def flowMostWrong : ChangeSpec := { name := "flowMost", fn := fun _ => fun
  | [d] => { results := [.lit (.bool false)], args := [d] }
  | _ => none }
def FlowMostWrongFalsely : Prop := flowMostRow.holds Tryd.pinned (OpenSpec.ofChange flowMostWrong)

/-- 'vouchlaw7.FlowReturns': WHATEVER THE INPUT: true; the input reads as it did. -/
def flowReturnsSpec : ChangeSpec := { name := "flowReturns", fn := fun _ => fun
  | [d1, d2] => { results := [.lit (.bool true)], args := [d1, d2] }
  | _ => none }
def flowReturnsRow : OpenClaim := { program := "ytfjmdffhfjnopaadoor", sum := "f47d5645b691240972f6b759adcb6f266a3b439373ec76e7bcff7dd80251bcce", func := "vouch/vouchlaw7.FlowReturns", spec := "flowReturns", unfollowed := true, recurses := true, named := ["internal/strconv.uint64pow10", "math/bits.deBruijn32tab", "math/bits.deBruijn64tab"], apart := false, laid := [("math/bits.deBruijn32tab", laid_math_bits_deBruijn32tab), ("math/bits.deBruijn64tab", laid_math_bits_deBruijn64tab), ("internal/strconv.uint64pow10", laid_internal_strconv_uint64pow10)] }
def FlowReturnsSaid : Prop := flowReturnsRow.holds Tryd.pinned (OpenSpec.ofChange flowReturnsSpec)

/-- ITS FALSE NEIGHBOUR: 'it returns false'. Refute it at one input. -/
def flowReturnsWrong : ChangeSpec := { name := "flowReturns", fn := fun _ => fun
  | [d1, d2] => { results := [.lit (.bool false)], args := [d1, d2] }
  | _ => none }
def FlowReturnsWrongFalsely : Prop := flowReturnsRow.holds Tryd.pinned (OpenSpec.ofChange flowReturnsWrong)

/-- 'vouchlaw7.FlowAll': WHATEVER THE INPUT: true; the input reads as it did. -/
def flowAllSpec : ChangeSpec := { name := "flowAll", fn := fun _ => fun
  | [d] => { results := [.lit (.bool true)], args := [d] }
  | _ => none }
def flowAllRow : OpenClaim := { program := "ytfjmdffhfjnopaadoor", sum := "f47d5645b691240972f6b759adcb6f266a3b439373ec76e7bcff7dd80251bcce", func := "vouch/vouchlaw7.FlowAll", spec := "flowAll", unfollowed := true, recurses := true, named := ["internal/strconv.uint64pow10", "math/bits.deBruijn32tab", "math/bits.deBruijn64tab"], apart := false, laid := [("math/bits.deBruijn32tab", laid_math_bits_deBruijn32tab), ("math/bits.deBruijn64tab", laid_math_bits_deBruijn64tab), ("internal/strconv.uint64pow10", laid_internal_strconv_uint64pow10)] }
def FlowAllSaid : Prop := flowAllRow.holds Tryd.pinned (OpenSpec.ofChange flowAllSpec)

/-- ITS FALSE NEIGHBOUR: 'it returns false'. Refute it at one input. -/
def flowAllWrong : ChangeSpec := { name := "flowAll", fn := fun _ => fun
  | [d] => { results := [.lit (.bool false)], args := [d] }
  | _ => none }
def FlowAllWrongFalsely : Prop := flowAllRow.holds Tryd.pinned (OpenSpec.ofChange flowAllWrong)

/- THE SECOND FORM. 'bulk': how many values and letters a reading holds, each counted each time it is reached (what is shared counts as often as it is met; a slice's spare places count too). A statement '..UptoSaid' is the law's where the arguments, and the package variables that the reading takes, are together of bulk at most 1048576: NARROWER than '..Said'. Prove '..Said' where nothing that the law and all that it calls make is longer than what came in: it says more and counts as full. Else prove '..UptoSaid'. A law counts once. -/
mutual
def uptoBulk {H : Type} : DataW H → Nat
  | .lit (.string bytes) => bytes.length + 1
  | .lit _ => 1
  | .nil => 1
  | .ptr d => uptoBulk d + 1
  | .slice elems spare => uptoBulkAll elems + uptoBulkAll spare + 1
  | .agg parts => uptoBulkAll parts + 1
  | .iface _ d => uptoBulk d + 1
  | .map entries => uptoBulkEntries entries + 1
  | .held _ => 1
def uptoBulkAll {H : Type} : List (DataW H) → Nat
  | [] => 0
  | d :: r => uptoBulk d + uptoBulkAll r
def uptoBulkEntries {H : Type} : List (Lit × DataW H) → Nat
  | [] => 0
  | x :: r => uptoBulkEntry x + uptoBulkEntries r
def uptoBulkEntry {H : Type} : Lit × DataW H → Nat
  | (.string bytes, d) => bytes.length + uptoBulk d + 1
  | (_, d) => uptoBulk d + 1
 end
def uptoSmall : (H : Type) → List (DataW H) → Bool := fun _ ds => decide (uptoBulkAll ds ≤ 1048576)
def OpenSpec.upto (s : _root_.Go.ChangeSpec) : _root_.Go.OpenSpec := { _root_.Go.OpenSpec.ofChange s with cond := some uptoSmall }

/-- 'vouchlaw7.FlowHeights', WHERE WHAT IT READS IS OF BULK AT MOST 1048576: true; the input reads as it did. -/
def flowHeightsUptoRow : OpenClaim := { program := "ytfjmdffhfjnopaadoor", sum := "f47d5645b691240972f6b759adcb6f266a3b439373ec76e7bcff7dd80251bcce", func := "vouch/vouchlaw7.FlowHeights", spec := "flowHeights", unfollowed := true, recurses := true, named := ["internal/strconv.uint64pow10", "math/bits.deBruijn32tab", "math/bits.deBruijn64tab"], apart := false, laid := [("math/bits.deBruijn32tab", laid_math_bits_deBruijn32tab), ("math/bits.deBruijn64tab", laid_math_bits_deBruijn64tab), ("internal/strconv.uint64pow10", laid_internal_strconv_uint64pow10)], narrowed := true }
def FlowHeightsUptoSaid : Prop := flowHeightsUptoRow.holds Tryd.pinned (OpenSpec.upto flowHeightsSpec)

/-- 'vouchlaw7.FlowJudged', WHERE WHAT IT READS IS OF BULK AT MOST 1048576: true; the input reads as it did. -/
def flowJudgedUptoRow : OpenClaim := { program := "ytfjmdffhfjnopaadoor", sum := "f47d5645b691240972f6b759adcb6f266a3b439373ec76e7bcff7dd80251bcce", func := "vouch/vouchlaw7.FlowJudged", spec := "flowJudged", unfollowed := true, recurses := true, named := ["internal/strconv.uint64pow10", "math/bits.deBruijn32tab", "math/bits.deBruijn64tab"], apart := false, laid := [("math/bits.deBruijn32tab", laid_math_bits_deBruijn32tab), ("math/bits.deBruijn64tab", laid_math_bits_deBruijn64tab), ("internal/strconv.uint64pow10", laid_internal_strconv_uint64pow10)], narrowed := true }
def FlowJudgedUptoSaid : Prop := flowJudgedUptoRow.holds Tryd.pinned (OpenSpec.upto flowJudgedSpec)

/-- 'vouchlaw7.FlowMet', WHERE WHAT IT READS IS OF BULK AT MOST 1048576: true; the input reads as it did. -/
def flowMetUptoRow : OpenClaim := { program := "ytfjmdffhfjnopaadoor", sum := "f47d5645b691240972f6b759adcb6f266a3b439373ec76e7bcff7dd80251bcce", func := "vouch/vouchlaw7.FlowMet", spec := "flowMet", unfollowed := true, recurses := true, named := ["internal/strconv.uint64pow10", "math/bits.deBruijn32tab", "math/bits.deBruijn64tab"], apart := false, laid := [("math/bits.deBruijn32tab", laid_math_bits_deBruijn32tab), ("math/bits.deBruijn64tab", laid_math_bits_deBruijn64tab), ("internal/strconv.uint64pow10", laid_internal_strconv_uint64pow10)], narrowed := true }
def FlowMetUptoSaid : Prop := flowMetUptoRow.holds Tryd.pinned (OpenSpec.upto flowMetSpec)

/-- 'vouchlaw7.FlowMoved', WHERE WHAT IT READS IS OF BULK AT MOST 1048576: true; the input reads as it did. -/
def flowMovedUptoRow : OpenClaim := { program := "ytfjmdffhfjnopaadoor", sum := "f47d5645b691240972f6b759adcb6f266a3b439373ec76e7bcff7dd80251bcce", func := "vouch/vouchlaw7.FlowMoved", spec := "flowMoved", unfollowed := true, recurses := true, named := ["internal/strconv.uint64pow10", "math/bits.deBruijn32tab", "math/bits.deBruijn64tab"], apart := false, laid := [("math/bits.deBruijn32tab", laid_math_bits_deBruijn32tab), ("math/bits.deBruijn64tab", laid_math_bits_deBruijn64tab), ("internal/strconv.uint64pow10", laid_internal_strconv_uint64pow10)], narrowed := true }
def FlowMovedUptoSaid : Prop := flowMovedUptoRow.holds Tryd.pinned (OpenSpec.upto flowMovedSpec)

/-- 'vouchlaw7.FlowNamed', WHERE WHAT IT READS IS OF BULK AT MOST 1048576: true; the input reads as it did. -/
def flowNamedUptoRow : OpenClaim := { program := "ytfjmdffhfjnopaadoor", sum := "f47d5645b691240972f6b759adcb6f266a3b439373ec76e7bcff7dd80251bcce", func := "vouch/vouchlaw7.FlowNamed", spec := "flowNamed", unfollowed := true, recurses := true, named := ["internal/strconv.uint64pow10", "math/bits.deBruijn32tab", "math/bits.deBruijn64tab"], apart := false, laid := [("math/bits.deBruijn32tab", laid_math_bits_deBruijn32tab), ("math/bits.deBruijn64tab", laid_math_bits_deBruijn64tab), ("internal/strconv.uint64pow10", laid_internal_strconv_uint64pow10)], narrowed := true }
def FlowNamedUptoSaid : Prop := flowNamedUptoRow.holds Tryd.pinned (OpenSpec.upto flowNamedSpec)

/-- 'vouchlaw7.FlowStraight', WHERE WHAT IT READS IS OF BULK AT MOST 1048576: true; the input reads as it did. -/
def flowStraightUptoRow : OpenClaim := { program := "ytfjmdffhfjnopaadoor", sum := "f47d5645b691240972f6b759adcb6f266a3b439373ec76e7bcff7dd80251bcce", func := "vouch/vouchlaw7.FlowStraight", spec := "flowStraight", unfollowed := true, recurses := true, named := ["internal/strconv.uint64pow10", "math/bits.deBruijn32tab", "math/bits.deBruijn64tab"], apart := false, laid := [("math/bits.deBruijn32tab", laid_math_bits_deBruijn32tab), ("math/bits.deBruijn64tab", laid_math_bits_deBruijn64tab), ("internal/strconv.uint64pow10", laid_internal_strconv_uint64pow10)], narrowed := true }
def FlowStraightUptoSaid : Prop := flowStraightUptoRow.holds Tryd.pinned (OpenSpec.upto flowStraightSpec)

/-- 'vouchlaw7.FlowFresh', WHERE WHAT IT READS IS OF BULK AT MOST 1048576: true; the input reads as it did. -/
def flowFreshUptoRow : OpenClaim := { program := "ytfjmdffhfjnopaadoor", sum := "f47d5645b691240972f6b759adcb6f266a3b439373ec76e7bcff7dd80251bcce", func := "vouch/vouchlaw7.FlowFresh", spec := "flowFresh", unfollowed := true, recurses := true, named := ["internal/strconv.uint64pow10", "math/bits.deBruijn32tab", "math/bits.deBruijn64tab"], apart := false, laid := [("math/bits.deBruijn32tab", laid_math_bits_deBruijn32tab), ("math/bits.deBruijn64tab", laid_math_bits_deBruijn64tab), ("internal/strconv.uint64pow10", laid_internal_strconv_uint64pow10)], narrowed := true }
def FlowFreshUptoSaid : Prop := flowFreshUptoRow.holds Tryd.pinned (OpenSpec.upto flowFreshSpec)

/-- 'vouchlaw7.FlowWalks', WHERE WHAT IT READS IS OF BULK AT MOST 1048576: true; the input reads as it did. -/
def flowWalksUptoRow : OpenClaim := { program := "ytfjmdffhfjnopaadoor", sum := "f47d5645b691240972f6b759adcb6f266a3b439373ec76e7bcff7dd80251bcce", func := "vouch/vouchlaw7.FlowWalks", spec := "flowWalks", unfollowed := true, recurses := true, named := ["internal/strconv.uint64pow10", "math/bits.deBruijn32tab", "math/bits.deBruijn64tab"], apart := false, laid := [("math/bits.deBruijn32tab", laid_math_bits_deBruijn32tab), ("math/bits.deBruijn64tab", laid_math_bits_deBruijn64tab), ("internal/strconv.uint64pow10", laid_internal_strconv_uint64pow10)], narrowed := true }
def FlowWalksUptoSaid : Prop := flowWalksUptoRow.holds Tryd.pinned (OpenSpec.upto flowWalksSpec)

/-- 'vouchlaw7.FlowMost', WHERE WHAT IT READS IS OF BULK AT MOST 1048576: true; the input reads as it did. -/
def flowMostUptoRow : OpenClaim := { program := "ytfjmdffhfjnopaadoor", sum := "f47d5645b691240972f6b759adcb6f266a3b439373ec76e7bcff7dd80251bcce", func := "vouch/vouchlaw7.FlowMost", spec := "flowMost", unfollowed := true, recurses := true, named := ["internal/strconv.uint64pow10", "math/bits.deBruijn32tab", "math/bits.deBruijn64tab"], apart := false, laid := [("math/bits.deBruijn32tab", laid_math_bits_deBruijn32tab), ("math/bits.deBruijn64tab", laid_math_bits_deBruijn64tab), ("internal/strconv.uint64pow10", laid_internal_strconv_uint64pow10)], narrowed := true }
def FlowMostUptoSaid : Prop := flowMostUptoRow.holds Tryd.pinned (OpenSpec.upto flowMostSpec)

/-- 'vouchlaw7.FlowReturns', WHERE WHAT IT READS IS OF BULK AT MOST 1048576: true; the input reads as it did. -/
def flowReturnsUptoRow : OpenClaim := { program := "ytfjmdffhfjnopaadoor", sum := "f47d5645b691240972f6b759adcb6f266a3b439373ec76e7bcff7dd80251bcce", func := "vouch/vouchlaw7.FlowReturns", spec := "flowReturns", unfollowed := true, recurses := true, named := ["internal/strconv.uint64pow10", "math/bits.deBruijn32tab", "math/bits.deBruijn64tab"], apart := false, laid := [("math/bits.deBruijn32tab", laid_math_bits_deBruijn32tab), ("math/bits.deBruijn64tab", laid_math_bits_deBruijn64tab), ("internal/strconv.uint64pow10", laid_internal_strconv_uint64pow10)], narrowed := true }
def FlowReturnsUptoSaid : Prop := flowReturnsUptoRow.holds Tryd.pinned (OpenSpec.upto flowReturnsSpec)

/-- 'vouchlaw7.FlowAll', WHERE WHAT IT READS IS OF BULK AT MOST 1048576: true; the input reads as it did. -/
def flowAllUptoRow : OpenClaim := { program := "ytfjmdffhfjnopaadoor", sum := "f47d5645b691240972f6b759adcb6f266a3b439373ec76e7bcff7dd80251bcce", func := "vouch/vouchlaw7.FlowAll", spec := "flowAll", unfollowed := true, recurses := true, named := ["internal/strconv.uint64pow10", "math/bits.deBruijn32tab", "math/bits.deBruijn64tab"], apart := false, laid := [("math/bits.deBruijn32tab", laid_math_bits_deBruijn32tab), ("math/bits.deBruijn64tab", laid_math_bits_deBruijn64tab), ("internal/strconv.uint64pow10", laid_internal_strconv_uint64pow10)], narrowed := true }
def FlowAllUptoSaid : Prop := flowAllUptoRow.holds Tryd.pinned (OpenSpec.upto flowAllSpec)

end Rows
end Go.Proofs.YtfjmdffhfjnopaaDoor
