/-
  NARROWER THAN 'FOR EVERY INPUT', by the rows' own cells (each row's printed sentence says how): OpOf: laid · OpAll: laid · OpNamed: laid · OpRows: laid · OpNeeds: laid · OpFits: laid.
  DERIVED. THE GIVEN ROWS OF THIS SEAT. 6 by the template 'for every input the law returns true; each argument reads behind the call as it read before'; 0 by the template 'total and deterministic' (their statements: YtchhbifldfnppaaDoorTotals.lean).
  GIVEN WITH THE SEED: the statements are not yours to turn. If you find one false, say at which input.
  Laid BY PROGRAM, IN A SANDBOX (cutbox-rows.mjs): the forced cells as the released guide's own fill.sh prints them over the translation 368a114951c97c54… (all of the seat's roots in one cut). By AI agents, Wed Nov 11 2026. No macro, syntax, notation, axiom, sorry.
-/
import Derived.Test.YtchhbifldfnppaaDoorChecked
import GoSem.Claim
import GoSem.ClaimJoined
import GoSem.ClaimMapViews
import Derived.JoinedTies
import Derived.KernelRfl
namespace Go.Proofs.YtchhbifldfnppaaDoor
/- THE CELL 'sum', in the pinned program and in every row, IS THE sha256 OF THE DUMP (.gsa) THAT YtchhbifldfnppaaDoorProg.lean LOADS. Nothing in Lean hashes anything: it is a label: what it is worth is what the hold of that sum in a sandbox is worth. -/
noncomputable def Tryd.pinned : Pinned := { name := "ytchhbifldfnppaadoor", sum := "368a114951c97c54524c31bc4e48e2edc973640a7c2891deebaff5287085b6f4", checked := Tryd.checked }
namespace Rows
def none {H : Type} : Left H := { results := [], args := [] }

/- WHAT THE LISTED PACKAGE-LEVEL VARIABLES READ AS WHEN THE CALL BEGINS. Each datum BY PROGRAM (the guide's laid-datum.mjs) off the statement by which the dump's own 'gosem.cut.vars' lays the variable. In a bare row this is a premise. The card (YtchhbifldfnppaaDoorCards.lean) ties it to the program's text. -/
def laid_math_bits_deBruijn32tab {H : Type} : DataW H := .agg [.lit (.int .u8 0), .lit (.int .u8 1), .lit (.int .u8 28), .lit (.int .u8 2), .lit (.int .u8 29), .lit (.int .u8 14), .lit (.int .u8 24), .lit (.int .u8 3), .lit (.int .u8 30), .lit (.int .u8 22), .lit (.int .u8 20), .lit (.int .u8 15), .lit (.int .u8 25), .lit (.int .u8 17), .lit (.int .u8 4), .lit (.int .u8 8), .lit (.int .u8 31), .lit (.int .u8 27), .lit (.int .u8 13), .lit (.int .u8 23), .lit (.int .u8 21), .lit (.int .u8 19), .lit (.int .u8 16), .lit (.int .u8 7), .lit (.int .u8 26), .lit (.int .u8 12), .lit (.int .u8 18), .lit (.int .u8 6), .lit (.int .u8 11), .lit (.int .u8 5), .lit (.int .u8 10), .lit (.int .u8 9)]
def laid_math_bits_deBruijn64tab {H : Type} : DataW H := .agg [.lit (.int .u8 0), .lit (.int .u8 1), .lit (.int .u8 56), .lit (.int .u8 2), .lit (.int .u8 57), .lit (.int .u8 49), .lit (.int .u8 28), .lit (.int .u8 3), .lit (.int .u8 61), .lit (.int .u8 58), .lit (.int .u8 42), .lit (.int .u8 50), .lit (.int .u8 38), .lit (.int .u8 29), .lit (.int .u8 17), .lit (.int .u8 4), .lit (.int .u8 62), .lit (.int .u8 47), .lit (.int .u8 59), .lit (.int .u8 36), .lit (.int .u8 45), .lit (.int .u8 43), .lit (.int .u8 51), .lit (.int .u8 22), .lit (.int .u8 53), .lit (.int .u8 39), .lit (.int .u8 33), .lit (.int .u8 30), .lit (.int .u8 24), .lit (.int .u8 18), .lit (.int .u8 12), .lit (.int .u8 5), .lit (.int .u8 63), .lit (.int .u8 55), .lit (.int .u8 48), .lit (.int .u8 27), .lit (.int .u8 60), .lit (.int .u8 41), .lit (.int .u8 37), .lit (.int .u8 16), .lit (.int .u8 46), .lit (.int .u8 35), .lit (.int .u8 44), .lit (.int .u8 21), .lit (.int .u8 52), .lit (.int .u8 32), .lit (.int .u8 23), .lit (.int .u8 11), .lit (.int .u8 54), .lit (.int .u8 26), .lit (.int .u8 40), .lit (.int .u8 15), .lit (.int .u8 34), .lit (.int .u8 20), .lit (.int .u8 31), .lit (.int .u8 10), .lit (.int .u8 25), .lit (.int .u8 14), .lit (.int .u8 19), .lit (.int .u8 9), .lit (.int .u8 13), .lit (.int .u8 8), .lit (.int .u8 7), .lit (.int .u8 6)]
def laid_internal_strconv_uint64pow10 {H : Type} : DataW H := .agg [.lit (.int .u64 1), .lit (.int .u64 10), .lit (.int .u64 100), .lit (.int .u64 1000), .lit (.int .u64 10000), .lit (.int .u64 100000), .lit (.int .u64 1000000), .lit (.int .u64 10000000), .lit (.int .u64 100000000), .lit (.int .u64 1000000000), .lit (.int .u64 10000000000), .lit (.int .u64 100000000000), .lit (.int .u64 1000000000000), .lit (.int .u64 10000000000000), .lit (.int .u64 100000000000000), .lit (.int .u64 1000000000000000), .lit (.int .u64 10000000000000000), .lit (.int .u64 100000000000000000), .lit (.int .u64 1000000000000000000), .lit (.int .u64 10000000000000000000)]

/-- 'vouchlaw4.OpOf': WHATEVER THE INPUT: true; the input reads as it did. -/
def opOfSpec : ChangeSpec := { name := "opOf", fn := fun _ => fun
  | [d] => { results := [.lit (.bool true)], args := [d] }
  | _ => none }
def opOfRow : OpenClaim := { program := "ytchhbifldfnppaadoor", sum := "368a114951c97c54524c31bc4e48e2edc973640a7c2891deebaff5287085b6f4", func := "vouch/vouchlaw4.OpOf", spec := "opOf", named := ["internal/strconv.uint64pow10", "math/bits.deBruijn32tab", "math/bits.deBruijn64tab"], apart := false, laid := [("math/bits.deBruijn32tab", laid_math_bits_deBruijn32tab), ("math/bits.deBruijn64tab", laid_math_bits_deBruijn64tab), ("internal/strconv.uint64pow10", laid_internal_strconv_uint64pow10)] }
def OpOfSaid : Prop := opOfRow.holds Tryd.pinned (OpenSpec.ofChange opOfSpec)

/-- ITS FALSE NEIGHBOUR: 'it returns false'. Refute it at one input. -/
def opOfWrong : ChangeSpec := { name := "opOf", fn := fun _ => fun
  | [d] => { results := [.lit (.bool false)], args := [d] }
  | _ => none }
def OpOfWrongFalsely : Prop := opOfRow.holds Tryd.pinned (OpenSpec.ofChange opOfWrong)

/-- 'vouchlaw4.OpAll': WHATEVER THE INPUT: true; the input reads as it did. -/
def opAllSpec : ChangeSpec := { name := "opAll", fn := fun _ => fun
  | [d1, d2] => { results := [.lit (.bool true)], args := [d1, d2] }
  | _ => none }
def opAllRow : OpenClaim := { program := "ytchhbifldfnppaadoor", sum := "368a114951c97c54524c31bc4e48e2edc973640a7c2891deebaff5287085b6f4", func := "vouch/vouchlaw4.OpAll", spec := "opAll", unfollowed := true, recurses := true, named := ["internal/strconv.uint64pow10", "math/bits.deBruijn32tab", "math/bits.deBruijn64tab"], apart := false, laid := [("math/bits.deBruijn32tab", laid_math_bits_deBruijn32tab), ("math/bits.deBruijn64tab", laid_math_bits_deBruijn64tab), ("internal/strconv.uint64pow10", laid_internal_strconv_uint64pow10)] }
def OpAllSaid : Prop := opAllRow.holds Tryd.pinned (OpenSpec.ofChange opAllSpec)

/-- ITS FALSE NEIGHBOUR: 'it returns false'. Refute it at one input. -/
def opAllWrong : ChangeSpec := { name := "opAll", fn := fun _ => fun
  | [d1, d2] => { results := [.lit (.bool false)], args := [d1, d2] }
  | _ => none }
def OpAllWrongFalsely : Prop := opAllRow.holds Tryd.pinned (OpenSpec.ofChange opAllWrong)

/-- 'vouchlaw4.OpNamed': WHATEVER THE INPUT: true; the input reads as it did. -/
def opNamedSpec : ChangeSpec := { name := "opNamed", fn := fun _ => fun
  | [d] => { results := [.lit (.bool true)], args := [d] }
  | _ => none }
def opNamedRow : OpenClaim := { program := "ytchhbifldfnppaadoor", sum := "368a114951c97c54524c31bc4e48e2edc973640a7c2891deebaff5287085b6f4", func := "vouch/vouchlaw4.OpNamed", spec := "opNamed", unfollowed := true, recurses := true, named := ["internal/strconv.uint64pow10", "math/bits.deBruijn32tab", "math/bits.deBruijn64tab"], apart := false, laid := [("math/bits.deBruijn32tab", laid_math_bits_deBruijn32tab), ("math/bits.deBruijn64tab", laid_math_bits_deBruijn64tab), ("internal/strconv.uint64pow10", laid_internal_strconv_uint64pow10)] }
def OpNamedSaid : Prop := opNamedRow.holds Tryd.pinned (OpenSpec.ofChange opNamedSpec)

/-- ITS FALSE NEIGHBOUR: 'it returns false'. Refute it at one input. -/
def opNamedWrong : ChangeSpec := { name := "opNamed", fn := fun _ => fun
  | [d] => { results := [.lit (.bool false)], args := [d] }
  | _ => none }
def OpNamedWrongFalsely : Prop := opNamedRow.holds Tryd.pinned (OpenSpec.ofChange opNamedWrong)

/-- 'vouchlaw4.OpRows': WHATEVER THE INPUT: true; the input reads as it did. -/
def opRowsSpec : ChangeSpec := { name := "opRows", fn := fun _ => fun
  | [] => { results := [.lit (.bool true)], args := [] }
  | _ => none }
def opRowsRow : OpenClaim := { program := "ytchhbifldfnppaadoor", sum := "368a114951c97c54524c31bc4e48e2edc973640a7c2891deebaff5287085b6f4", func := "vouch/vouchlaw4.OpRows", spec := "opRows", unfollowed := true, recurses := true, named := ["internal/strconv.uint64pow10", "math/bits.deBruijn32tab", "math/bits.deBruijn64tab"], apart := false, laid := [("math/bits.deBruijn32tab", laid_math_bits_deBruijn32tab), ("math/bits.deBruijn64tab", laid_math_bits_deBruijn64tab), ("internal/strconv.uint64pow10", laid_internal_strconv_uint64pow10)] }
def OpRowsSaid : Prop := opRowsRow.holds Tryd.pinned (OpenSpec.ofChange opRowsSpec)

/-- ITS FALSE NEIGHBOUR: 'it returns false'. Refute it at one input. -/
def opRowsWrong : ChangeSpec := { name := "opRows", fn := fun _ => fun
  | [] => { results := [.lit (.bool false)], args := [] }
  | _ => none }
def OpRowsWrongFalsely : Prop := opRowsRow.holds Tryd.pinned (OpenSpec.ofChange opRowsWrong)

/-- 'vouchlaw4.OpNeeds': WHATEVER THE INPUT: true; the input reads as it did. -/
def opNeedsSpec : ChangeSpec := { name := "opNeeds", fn := fun _ => fun
  | [d] => { results := [.lit (.bool true)], args := [d] }
  | _ => none }
def opNeedsRow : OpenClaim := { program := "ytchhbifldfnppaadoor", sum := "368a114951c97c54524c31bc4e48e2edc973640a7c2891deebaff5287085b6f4", func := "vouch/vouchlaw4.OpNeeds", spec := "opNeeds", named := ["internal/strconv.uint64pow10", "math/bits.deBruijn32tab", "math/bits.deBruijn64tab"], apart := false, laid := [("math/bits.deBruijn32tab", laid_math_bits_deBruijn32tab), ("math/bits.deBruijn64tab", laid_math_bits_deBruijn64tab), ("internal/strconv.uint64pow10", laid_internal_strconv_uint64pow10)] }
def OpNeedsSaid : Prop := opNeedsRow.holds Tryd.pinned (OpenSpec.ofChange opNeedsSpec)

/-- ITS FALSE NEIGHBOUR: 'it returns false'. Refute it at one input. -/
def opNeedsWrong : ChangeSpec := { name := "opNeeds", fn := fun _ => fun
  | [d] => { results := [.lit (.bool false)], args := [d] }
  | _ => none }
def OpNeedsWrongFalsely : Prop := opNeedsRow.holds Tryd.pinned (OpenSpec.ofChange opNeedsWrong)

/-- 'vouchlaw4.OpFits': WHATEVER THE INPUT: true; the input reads as it did. -/
def opFitsSpec : ChangeSpec := { name := "opFits", fn := fun _ => fun
  | [d] => { results := [.lit (.bool true)], args := [d] }
  | _ => none }
def opFitsRow : OpenClaim := { program := "ytchhbifldfnppaadoor", sum := "368a114951c97c54524c31bc4e48e2edc973640a7c2891deebaff5287085b6f4", func := "vouch/vouchlaw4.OpFits", spec := "opFits", unfollowed := true, recurses := true, named := ["internal/strconv.uint64pow10", "math/bits.deBruijn32tab", "math/bits.deBruijn64tab"], apart := false, laid := [("math/bits.deBruijn32tab", laid_math_bits_deBruijn32tab), ("math/bits.deBruijn64tab", laid_math_bits_deBruijn64tab), ("internal/strconv.uint64pow10", laid_internal_strconv_uint64pow10)] }
def OpFitsSaid : Prop := opFitsRow.holds Tryd.pinned (OpenSpec.ofChange opFitsSpec)

/-- ITS FALSE NEIGHBOUR: 'it returns false'. Refute it at one input. -/
def opFitsWrong : ChangeSpec := { name := "opFits", fn := fun _ => fun
  | [d] => { results := [.lit (.bool false)], args := [d] }
  | _ => none }
def OpFitsWrongFalsely : Prop := opFitsRow.holds Tryd.pinned (OpenSpec.ofChange opFitsWrong)

/- THE SECOND FORM. 'bulk': how many values and letters a reading holds, each counted each time it is reached (what is shared counts as often as it is met; a slice's spare places count too). A statement '..UptoSaid' is the law's where the arguments, and the package variables that the reading takes, are together of bulk at most 1048576: NARROWER than '..Said'. Prove '..Said' where nothing that the law and all that it calls make is longer than what came in: it says more and counts as full. Else prove '..UptoSaid'. A law counts once. -/
mutual
def uptoBulk {H : Type} : DataW H → Nat
  | .lit (.string bytes) => bytes.length + 1
  | .lit _ => 1
  | .nil => 1
  | .ptr d => uptoBulk d + 1
  | .slice elems spare => uptoBulkAll elems + uptoBulkAll spare + 1
  | .agg parts => uptoBulkAll parts + 1
  | .iface _ d => uptoBulk d + 1
  | .map entries => uptoBulkEntries entries + 1
  | .held _ => 1
def uptoBulkAll {H : Type} : List (DataW H) → Nat
  | [] => 0
  | d :: r => uptoBulk d + uptoBulkAll r
def uptoBulkEntries {H : Type} : List (Lit × DataW H) → Nat
  | [] => 0
  | x :: r => uptoBulkEntry x + uptoBulkEntries r
def uptoBulkEntry {H : Type} : Lit × DataW H → Nat
  | (.string bytes, d) => bytes.length + uptoBulk d + 1
  | (_, d) => uptoBulk d + 1
 end
def uptoSmall : (H : Type) → List (DataW H) → Bool := fun _ ds => decide (uptoBulkAll ds ≤ 1048576)
def OpenSpec.upto (s : _root_.Go.ChangeSpec) : _root_.Go.OpenSpec := { _root_.Go.OpenSpec.ofChange s with cond := some uptoSmall }

/-- 'vouchlaw4.OpOf', WHERE WHAT IT READS IS OF BULK AT MOST 1048576: true; the input reads as it did. -/
def opOfUptoRow : OpenClaim := { program := "ytchhbifldfnppaadoor", sum := "368a114951c97c54524c31bc4e48e2edc973640a7c2891deebaff5287085b6f4", func := "vouch/vouchlaw4.OpOf", spec := "opOf", named := ["internal/strconv.uint64pow10", "math/bits.deBruijn32tab", "math/bits.deBruijn64tab"], apart := false, laid := [("math/bits.deBruijn32tab", laid_math_bits_deBruijn32tab), ("math/bits.deBruijn64tab", laid_math_bits_deBruijn64tab), ("internal/strconv.uint64pow10", laid_internal_strconv_uint64pow10)], narrowed := true }
def OpOfUptoSaid : Prop := opOfUptoRow.holds Tryd.pinned (OpenSpec.upto opOfSpec)

/-- 'vouchlaw4.OpAll', WHERE WHAT IT READS IS OF BULK AT MOST 1048576: true; the input reads as it did. -/
def opAllUptoRow : OpenClaim := { program := "ytchhbifldfnppaadoor", sum := "368a114951c97c54524c31bc4e48e2edc973640a7c2891deebaff5287085b6f4", func := "vouch/vouchlaw4.OpAll", spec := "opAll", unfollowed := true, recurses := true, named := ["internal/strconv.uint64pow10", "math/bits.deBruijn32tab", "math/bits.deBruijn64tab"], apart := false, laid := [("math/bits.deBruijn32tab", laid_math_bits_deBruijn32tab), ("math/bits.deBruijn64tab", laid_math_bits_deBruijn64tab), ("internal/strconv.uint64pow10", laid_internal_strconv_uint64pow10)], narrowed := true }
def OpAllUptoSaid : Prop := opAllUptoRow.holds Tryd.pinned (OpenSpec.upto opAllSpec)

/-- 'vouchlaw4.OpNamed', WHERE WHAT IT READS IS OF BULK AT MOST 1048576: true; the input reads as it did. -/
def opNamedUptoRow : OpenClaim := { program := "ytchhbifldfnppaadoor", sum := "368a114951c97c54524c31bc4e48e2edc973640a7c2891deebaff5287085b6f4", func := "vouch/vouchlaw4.OpNamed", spec := "opNamed", unfollowed := true, recurses := true, named := ["internal/strconv.uint64pow10", "math/bits.deBruijn32tab", "math/bits.deBruijn64tab"], apart := false, laid := [("math/bits.deBruijn32tab", laid_math_bits_deBruijn32tab), ("math/bits.deBruijn64tab", laid_math_bits_deBruijn64tab), ("internal/strconv.uint64pow10", laid_internal_strconv_uint64pow10)], narrowed := true }
def OpNamedUptoSaid : Prop := opNamedUptoRow.holds Tryd.pinned (OpenSpec.upto opNamedSpec)

/-- 'vouchlaw4.OpRows', WHERE WHAT IT READS IS OF BULK AT MOST 1048576: true; the input reads as it did. -/
def opRowsUptoRow : OpenClaim := { program := "ytchhbifldfnppaadoor", sum := "368a114951c97c54524c31bc4e48e2edc973640a7c2891deebaff5287085b6f4", func := "vouch/vouchlaw4.OpRows", spec := "opRows", unfollowed := true, recurses := true, named := ["internal/strconv.uint64pow10", "math/bits.deBruijn32tab", "math/bits.deBruijn64tab"], apart := false, laid := [("math/bits.deBruijn32tab", laid_math_bits_deBruijn32tab), ("math/bits.deBruijn64tab", laid_math_bits_deBruijn64tab), ("internal/strconv.uint64pow10", laid_internal_strconv_uint64pow10)], narrowed := true }
def OpRowsUptoSaid : Prop := opRowsUptoRow.holds Tryd.pinned (OpenSpec.upto opRowsSpec)

/-- 'vouchlaw4.OpNeeds', WHERE WHAT IT READS IS OF BULK AT MOST 1048576: true; the input reads as it did. -/
def opNeedsUptoRow : OpenClaim := { program := "ytchhbifldfnppaadoor", sum := "368a114951c97c54524c31bc4e48e2edc973640a7c2891deebaff5287085b6f4", func := "vouch/vouchlaw4.OpNeeds", spec := "opNeeds", named := ["internal/strconv.uint64pow10", "math/bits.deBruijn32tab", "math/bits.deBruijn64tab"], apart := false, laid := [("math/bits.deBruijn32tab", laid_math_bits_deBruijn32tab), ("math/bits.deBruijn64tab", laid_math_bits_deBruijn64tab), ("internal/strconv.uint64pow10", laid_internal_strconv_uint64pow10)], narrowed := true }
def OpNeedsUptoSaid : Prop := opNeedsUptoRow.holds Tryd.pinned (OpenSpec.upto opNeedsSpec)

/-- 'vouchlaw4.OpFits', WHERE WHAT IT READS IS OF BULK AT MOST 1048576: true; the input reads as it did. -/
def opFitsUptoRow : OpenClaim := { program := "ytchhbifldfnppaadoor", sum := "368a114951c97c54524c31bc4e48e2edc973640a7c2891deebaff5287085b6f4", func := "vouch/vouchlaw4.OpFits", spec := "opFits", unfollowed := true, recurses := true, named := ["internal/strconv.uint64pow10", "math/bits.deBruijn32tab", "math/bits.deBruijn64tab"], apart := false, laid := [("math/bits.deBruijn32tab", laid_math_bits_deBruijn32tab), ("math/bits.deBruijn64tab", laid_math_bits_deBruijn64tab), ("internal/strconv.uint64pow10", laid_internal_strconv_uint64pow10)], narrowed := true }
def OpFitsUptoSaid : Prop := opFitsUptoRow.holds Tryd.pinned (OpenSpec.upto opFitsSpec)

end Rows
end Go.Proofs.YtchhbifldfnppaaDoor
