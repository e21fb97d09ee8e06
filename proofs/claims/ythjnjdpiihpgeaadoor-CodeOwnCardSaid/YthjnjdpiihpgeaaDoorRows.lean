/-
  NARROWER THAN 'FOR EVERY INPUT', by the rows' own cells (each row's printed sentence says how): CodeWhole: laid · CodeWithin: laid · CodeOnes: laid · CodeLocal: laid · CodeAgrees: laid · CodeOwn: laid · CodeJumps: laid · CodeLent: laid · CodeLeads: laid · CodeChecks: laid · CodePlays: laid · CodeTargets: laid.
  DERIVED. THE GIVEN ROWS OF THIS SEAT. 12 by the template 'for every input the law returns true; each argument reads behind the call as it read before'; 0 by the template 'total and deterministic' (their statements: YthjnjdpiihpgeaaDoorTotals.lean).
  GIVEN WITH THE SEED: the statements are not yours to turn. If you find one false, say at which input.
  Laid BY PROGRAM, IN A SANDBOX (cutbox-rows.mjs): the forced cells as the released guide's own fill.sh prints them over the translation 5e30b626e5f39faa… (all of the seat's roots in one cut). By AI agents, Wed Nov 11 2026. No macro, syntax, notation, axiom, sorry.
-/
import Derived.Test.YthjnjdpiihpgeaaDoorChecked
import GoSem.Claim
import GoSem.ClaimJoined
import GoSem.ClaimMapViews
import Derived.JoinedTies
import Derived.KernelRfl
namespace Go.Proofs.YthjnjdpiihpgeaaDoor
/- THE CELL 'sum', in the pinned program and in every row, IS THE sha256 OF THE DUMP (.gsa) THAT YthjnjdpiihpgeaaDoorProg.lean LOADS. Nothing in Lean hashes anything: it is a label: what it is worth is what the hold of that sum in a sandbox is worth. -/
noncomputable def Tryd.pinned : Pinned := { name := "ythjnjdpiihpgeaadoor", sum := "5e30b626e5f39faa06c660e8b5601248b407c481c2a05d27d65a00d18afa58a9", checked := Tryd.checked }
namespace Rows
def none {H : Type} : Left H := { results := [], args := [] }

/- WHAT THE LISTED PACKAGE-LEVEL VARIABLES READ AS WHEN THE CALL BEGINS. Each datum BY PROGRAM (the guide's laid-datum.mjs) off the statement by which the dump's own 'gosem.cut.vars' lays the variable. In a bare row this is a premise. The card (YthjnjdpiihpgeaaDoorCards.lean) ties it to the program's text. -/
def laid_math_bits_deBruijn32tab {H : Type} : DataW H := .agg [.lit (.int .u8 0), .lit (.int .u8 1), .lit (.int .u8 28), .lit (.int .u8 2), .lit (.int .u8 29), .lit (.int .u8 14), .lit (.int .u8 24), .lit (.int .u8 3), .lit (.int .u8 30), .lit (.int .u8 22), .lit (.int .u8 20), .lit (.int .u8 15), .lit (.int .u8 25), .lit (.int .u8 17), .lit (.int .u8 4), .lit (.int .u8 8), .lit (.int .u8 31), .lit (.int .u8 27), .lit (.int .u8 13), .lit (.int .u8 23), .lit (.int .u8 21), .lit (.int .u8 19), .lit (.int .u8 16), .lit (.int .u8 7), .lit (.int .u8 26), .lit (.int .u8 12), .lit (.int .u8 18), .lit (.int .u8 6), .lit (.int .u8 11), .lit (.int .u8 5), .lit (.int .u8 10), .lit (.int .u8 9)]
def laid_math_bits_deBruijn64tab {H : Type} : DataW H := .agg [.lit (.int .u8 0), .lit (.int .u8 1), .lit (.int .u8 56), .lit (.int .u8 2), .lit (.int .u8 57), .lit (.int .u8 49), .lit (.int .u8 28), .lit (.int .u8 3), .lit (.int .u8 61), .lit (.int .u8 58), .lit (.int .u8 42), .lit (.int .u8 50), .lit (.int .u8 38), .lit (.int .u8 29), .lit (.int .u8 17), .lit (.int .u8 4), .lit (.int .u8 62), .lit (.int .u8 47), .lit (.int .u8 59), .lit (.int .u8 36), .lit (.int .u8 45), .lit (.int .u8 43), .lit (.int .u8 51), .lit (.int .u8 22), .lit (.int .u8 53), .lit (.int .u8 39), .lit (.int .u8 33), .lit (.int .u8 30), .lit (.int .u8 24), .lit (.int .u8 18), .lit (.int .u8 12), .lit (.int .u8 5), .lit (.int .u8 63), .lit (.int .u8 55), .lit (.int .u8 48), .lit (.int .u8 27), .lit (.int .u8 60), .lit (.int .u8 41), .lit (.int .u8 37), .lit (.int .u8 16), .lit (.int .u8 46), .lit (.int .u8 35), .lit (.int .u8 44), .lit (.int .u8 21), .lit (.int .u8 52), .lit (.int .u8 32), .lit (.int .u8 23), .lit (.int .u8 11), .lit (.int .u8 54), .lit (.int .u8 26), .lit (.int .u8 40), .lit (.int .u8 15), .lit (.int .u8 34), .lit (.int .u8 20), .lit (.int .u8 31), .lit (.int .u8 10), .lit (.int .u8 25), .lit (.int .u8 14), .lit (.int .u8 19), .lit (.int .u8 9), .lit (.int .u8 13), .lit (.int .u8 8), .lit (.int .u8 7), .lit (.int .u8 6)]
def laid_internal_strconv_uint64pow10 {H : Type} : DataW H := .agg [.lit (.int .u64 1), .lit (.int .u64 10), .lit (.int .u64 100), .lit (.int .u64 1000), .lit (.int .u64 10000), .lit (.int .u64 100000), .lit (.int .u64 1000000), .lit (.int .u64 10000000), .lit (.int .u64 100000000), .lit (.int .u64 1000000000), .lit (.int .u64 10000000000), .lit (.int .u64 100000000000), .lit (.int .u64 1000000000000), .lit (.int .u64 10000000000000), .lit (.int .u64 100000000000000), .lit (.int .u64 1000000000000000), .lit (.int .u64 10000000000000000), .lit (.int .u64 100000000000000000), .lit (.int .u64 1000000000000000000), .lit (.int .u64 10000000000000000000)]

/-- 'vouchlaw6.CodeWhole': WHATEVER THE INPUT: true; the input reads as it did. -/
def codeWholeSpec : ChangeSpec := { name := "codeWhole", fn := fun _ => fun
  | [d] => { results := [.lit (.bool true)], args := [d] }
  | _ => none }
def codeWholeRow : OpenClaim := { program := "ythjnjdpiihpgeaadoor", sum := "5e30b626e5f39faa06c660e8b5601248b407c481c2a05d27d65a00d18afa58a9", func := "vouch/vouchlaw6.CodeWhole", spec := "codeWhole", unfollowed := true, recurses := true, named := ["internal/strconv.uint64pow10", "math/bits.deBruijn32tab", "math/bits.deBruijn64tab"], apart := false, laid := [("math/bits.deBruijn32tab", laid_math_bits_deBruijn32tab), ("math/bits.deBruijn64tab", laid_math_bits_deBruijn64tab), ("internal/strconv.uint64pow10", laid_internal_strconv_uint64pow10)] }
def CodeWholeSaid : Prop := codeWholeRow.holds Tryd.pinned (OpenSpec.ofChange codeWholeSpec)

/-- ITS FALSE NEIGHBOUR: 'it returns false'. Refute it at one input. -/
def codeWholeWrong : ChangeSpec := { name := "codeWhole", fn := fun _ => fun
  | [d] => { results := [.lit (.bool false)], args := [d] }
  | _ => none }
def CodeWholeWrongFalsely : Prop := codeWholeRow.holds Tryd.pinned (OpenSpec.ofChange codeWholeWrong)

/-- 'vouchlaw6.CodeWithin': WHATEVER THE INPUT: true; the input reads as it did. -/
def codeWithinSpec : ChangeSpec := { name := "codeWithin", fn := fun _ => fun
  | [d1, d2] => { results := [.lit (.bool true)], args := [d1, d2] }
  | _ => none }
def codeWithinRow : OpenClaim := { program := "ythjnjdpiihpgeaadoor", sum := "5e30b626e5f39faa06c660e8b5601248b407c481c2a05d27d65a00d18afa58a9", func := "vouch/vouchlaw6.CodeWithin", spec := "codeWithin", unfollowed := true, recurses := true, named := ["internal/strconv.uint64pow10", "math/bits.deBruijn32tab", "math/bits.deBruijn64tab"], apart := false, laid := [("math/bits.deBruijn32tab", laid_math_bits_deBruijn32tab), ("math/bits.deBruijn64tab", laid_math_bits_deBruijn64tab), ("internal/strconv.uint64pow10", laid_internal_strconv_uint64pow10)] }
def CodeWithinSaid : Prop := codeWithinRow.holds Tryd.pinned (OpenSpec.ofChange codeWithinSpec)

/-- ITS FALSE NEIGHBOUR: 'it returns false'. Refute it at one input. -/
def codeWithinWrong : ChangeSpec := { name := "codeWithin", fn := fun _ => fun
  | [d1, d2] => { results := [.lit (.bool false)], args := [d1, d2] }
  | _ => none }
def CodeWithinWrongFalsely : Prop := codeWithinRow.holds Tryd.pinned (OpenSpec.ofChange codeWithinWrong)

/-- 'vouchlaw6.CodeOnes': WHATEVER THE INPUT: true; the input reads as it did. -/
def codeOnesSpec : ChangeSpec := { name := "codeOnes", fn := fun _ => fun
  | [d1, d2] => { results := [.lit (.bool true)], args := [d1, d2] }
  | _ => none }
def codeOnesRow : OpenClaim := { program := "ythjnjdpiihpgeaadoor", sum := "5e30b626e5f39faa06c660e8b5601248b407c481c2a05d27d65a00d18afa58a9", func := "vouch/vouchlaw6.CodeOnes", spec := "codeOnes", unfollowed := true, recurses := true, named := ["internal/strconv.uint64pow10", "math/bits.deBruijn32tab", "math/bits.deBruijn64tab"], apart := false, laid := [("math/bits.deBruijn32tab", laid_math_bits_deBruijn32tab), ("math/bits.deBruijn64tab", laid_math_bits_deBruijn64tab), ("internal/strconv.uint64pow10", laid_internal_strconv_uint64pow10)] }
def CodeOnesSaid : Prop := codeOnesRow.holds Tryd.pinned (OpenSpec.ofChange codeOnesSpec)

/-- ITS FALSE NEIGHBOUR: 'it returns false'. Refute it at one input. -/
def codeOnesWrong : ChangeSpec := { name := "codeOnes", fn := fun _ => fun
  | [d1, d2] => { results := [.lit (.bool false)], args := [d1, d2] }
  | _ => none }
def CodeOnesWrongFalsely : Prop := codeOnesRow.holds Tryd.pinned (OpenSpec.ofChange codeOnesWrong)

/-- 'vouchlaw6.CodeLocal': WHATEVER THE INPUT: true; the input reads as it did. -/
def codeLocalSpec : ChangeSpec := { name := "codeLocal", fn := fun _ => fun
  | [d1, d2, d3] => { results := [.lit (.bool true)], args := [d1, d2, d3] }
  | _ => none }
def codeLocalRow : OpenClaim := { program := "ythjnjdpiihpgeaadoor", sum := "5e30b626e5f39faa06c660e8b5601248b407c481c2a05d27d65a00d18afa58a9", func := "vouch/vouchlaw6.CodeLocal", spec := "codeLocal", unfollowed := true, recurses := true, named := ["internal/strconv.uint64pow10", "math/bits.deBruijn32tab", "math/bits.deBruijn64tab"], apart := false, laid := [("math/bits.deBruijn32tab", laid_math_bits_deBruijn32tab), ("math/bits.deBruijn64tab", laid_math_bits_deBruijn64tab), ("internal/strconv.uint64pow10", laid_internal_strconv_uint64pow10)] }
def CodeLocalSaid : Prop := codeLocalRow.holds Tryd.pinned (OpenSpec.ofChange codeLocalSpec)

/-- ITS FALSE NEIGHBOUR: 'it returns false'. Refute it at one input. -/
def codeLocalWrong : ChangeSpec := { name := "codeLocal", fn := fun _ => fun
  | [d1, d2, d3] => { results := [.lit (.bool false)], args := [d1, d2, d3] }
  | _ => none }
def CodeLocalWrongFalsely : Prop := codeLocalRow.holds Tryd.pinned (OpenSpec.ofChange codeLocalWrong)

/-- 'vouchlaw6.CodeAgrees': WHATEVER THE INPUT: true; the input reads as it did. -/
def codeAgreesSpec : ChangeSpec := { name := "codeAgrees", fn := fun _ => fun
  | [d] => { results := [.lit (.bool true)], args := [d] }
  | _ => none }
def codeAgreesRow : OpenClaim := { program := "ythjnjdpiihpgeaadoor", sum := "5e30b626e5f39faa06c660e8b5601248b407c481c2a05d27d65a00d18afa58a9", func := "vouch/vouchlaw6.CodeAgrees", spec := "codeAgrees", unfollowed := true, recurses := true, named := ["internal/strconv.uint64pow10", "math/bits.deBruijn32tab", "math/bits.deBruijn64tab"], apart := false, laid := [("math/bits.deBruijn32tab", laid_math_bits_deBruijn32tab), ("math/bits.deBruijn64tab", laid_math_bits_deBruijn64tab), ("internal/strconv.uint64pow10", laid_internal_strconv_uint64pow10)] }
def CodeAgreesSaid : Prop := codeAgreesRow.holds Tryd.pinned (OpenSpec.ofChange codeAgreesSpec)

/-- ITS FALSE NEIGHBOUR: 'it returns false'. Refute it at one input. -/
def codeAgreesWrong : ChangeSpec := { name := "codeAgrees", fn := fun _ => fun
  | [d] => { results := [.lit (.bool false)], args := [d] }
  | _ => none }
def CodeAgreesWrongFalsely : Prop := codeAgreesRow.holds Tryd.pinned (OpenSpec.ofChange codeAgreesWrong)

/-- 'vouchlaw6.CodeOwn': WHATEVER THE INPUT: true; the input reads as it did. -/
def codeOwnSpec : ChangeSpec := { name := "codeOwn", fn := fun _ => fun
  | [d] => { results := [.lit (.bool true)], args := [d] }
  | _ => none }
def codeOwnRow : OpenClaim := { program := "ythjnjdpiihpgeaadoor", sum := "5e30b626e5f39faa06c660e8b5601248b407c481c2a05d27d65a00d18afa58a9", func := "vouch/vouchlaw6.CodeOwn", spec := "codeOwn", unfollowed := true, recurses := true, named := ["internal/strconv.uint64pow10", "math/bits.deBruijn32tab", "math/bits.deBruijn64tab"], apart := false, laid := [("math/bits.deBruijn32tab", laid_math_bits_deBruijn32tab), ("math/bits.deBruijn64tab", laid_math_bits_deBruijn64tab), ("internal/strconv.uint64pow10", laid_internal_strconv_uint64pow10)] }
def CodeOwnSaid : Prop := codeOwnRow.holds Tryd.pinned (OpenSpec.ofChange codeOwnSpec)

/-- ITS FALSE NEIGHBOUR: 'it returns false'. Refute it at one input. -/
def codeOwnWrong : ChangeSpec := { name := "codeOwn", fn := fun _ => fun
  | [d] => { results := [.lit (.bool false)], args := [d] }
  | _ => none }
def CodeOwnWrongFalsely : Prop := codeOwnRow.holds Tryd.pinned (OpenSpec.ofChange codeOwnWrong)

/-- 'vouchlaw6.CodeJumps': WHATEVER THE INPUT: true; the input reads as it did. -/
def codeJumpsSpec : ChangeSpec := { name := "codeJumps", fn := fun _ => fun
  | [d1, d2] => { results := [.lit (.bool true)], args := [d1, d2] }
  | _ => none }
def codeJumpsRow : OpenClaim := { program := "ythjnjdpiihpgeaadoor", sum := "5e30b626e5f39faa06c660e8b5601248b407c481c2a05d27d65a00d18afa58a9", func := "vouch/vouchlaw6.CodeJumps", spec := "codeJumps", unfollowed := true, recurses := true, named := ["internal/strconv.uint64pow10", "math/bits.deBruijn32tab", "math/bits.deBruijn64tab"], apart := false, laid := [("math/bits.deBruijn32tab", laid_math_bits_deBruijn32tab), ("math/bits.deBruijn64tab", laid_math_bits_deBruijn64tab), ("internal/strconv.uint64pow10", laid_internal_strconv_uint64pow10)] }
def CodeJumpsSaid : Prop := codeJumpsRow.holds Tryd.pinned (OpenSpec.ofChange codeJumpsSpec)

/-- ITS FALSE NEIGHBOUR: 'it returns false'. Refute it at one input. -/
def codeJumpsWrong : ChangeSpec := { name := "codeJumps", fn := fun _ => fun
  | [d1, d2] => { results := [.lit (.bool false)], args := [d1, d2] }
  | _ => none }
def CodeJumpsWrongFalsely : Prop := codeJumpsRow.holds Tryd.pinned (OpenSpec.ofChange codeJumpsWrong)

/-- 'vouchlaw6.CodeLent': WHATEVER THE INPUT: true; the input reads as it did. -/
def codeLentSpec : ChangeSpec := { name := "codeLent", fn := fun _ => fun
  | [d1, d2] => { results := [.lit (.bool true)], args := [d1, d2] }
  | _ => none }
def codeLentRow : OpenClaim := { program := "ythjnjdpiihpgeaadoor", sum := "5e30b626e5f39faa06c660e8b5601248b407c481c2a05d27d65a00d18afa58a9", func := "vouch/vouchlaw6.CodeLent", spec := "codeLent", unfollowed := true, recurses := true, named := ["internal/strconv.uint64pow10", "math/bits.deBruijn32tab", "math/bits.deBruijn64tab"], apart := false, laid := [("math/bits.deBruijn32tab", laid_math_bits_deBruijn32tab), ("math/bits.deBruijn64tab", laid_math_bits_deBruijn64tab), ("internal/strconv.uint64pow10", laid_internal_strconv_uint64pow10)] }
def CodeLentSaid : Prop := codeLentRow.holds Tryd.pinned (OpenSpec.ofChange codeLentSpec)

/-- ITS FALSE NEIGHBOUR: 'it returns false'. Refute it at one input. -/
def codeLentWrong : ChangeSpec := { name := "codeLent", fn := fun _ => fun
  | [d1, d2] => { results := [.lit (.bool false)], args := [d1, d2] }
  | _ => none }
def CodeLentWrongFalsely : Prop := codeLentRow.holds Tryd.pinned (OpenSpec.ofChange codeLentWrong)

/-- 'vouchlaw6.CodeLeads': WHATEVER THE INPUT: true; the input reads as it did. -/
def codeLeadsSpec : ChangeSpec := { name := "codeLeads", fn := fun _ => fun
  | [d] => { results := [.lit (.bool true)], args := [d] }
  | _ => none }
def codeLeadsRow : OpenClaim := { program := "ythjnjdpiihpgeaadoor", sum := "5e30b626e5f39faa06c660e8b5601248b407c481c2a05d27d65a00d18afa58a9", func := "vouch/vouchlaw6.CodeLeads", spec := "codeLeads", unfollowed := true, recurses := true, named := ["internal/strconv.uint64pow10", "math/bits.deBruijn32tab", "math/bits.deBruijn64tab"], apart := false, laid := [("math/bits.deBruijn32tab", laid_math_bits_deBruijn32tab), ("math/bits.deBruijn64tab", laid_math_bits_deBruijn64tab), ("internal/strconv.uint64pow10", laid_internal_strconv_uint64pow10)] }
def CodeLeadsSaid : Prop := codeLeadsRow.holds Tryd.pinned (OpenSpec.ofChange codeLeadsSpec)

/-- ITS FALSE NEIGHBOUR: 'it returns false'. Refute it at one input. -/
def codeLeadsWrong : ChangeSpec := { name := "codeLeads", fn := fun _ => fun
  | [d] => { results := [.lit (.bool false)], args := [d] }
  | _ => none }
def CodeLeadsWrongFalsely : Prop := codeLeadsRow.holds Tryd.pinned (OpenSpec.ofChange codeLeadsWrong)

/-- 'vouchlaw6.CodeChecks': WHATEVER THE INPUT: true; the input reads as it did. -/
def codeChecksSpec : ChangeSpec := { name := "codeChecks", fn := fun _ => fun
  | [d] => { results := [.lit (.bool true)], args := [d] }
  | _ => none }
def codeChecksRow : OpenClaim := { program := "ythjnjdpiihpgeaadoor", sum := "5e30b626e5f39faa06c660e8b5601248b407c481c2a05d27d65a00d18afa58a9", func := "vouch/vouchlaw6.CodeChecks", spec := "codeChecks", unfollowed := true, recurses := true, named := ["internal/strconv.uint64pow10", "math/bits.deBruijn32tab", "math/bits.deBruijn64tab"], apart := false, laid := [("math/bits.deBruijn32tab", laid_math_bits_deBruijn32tab), ("math/bits.deBruijn64tab", laid_math_bits_deBruijn64tab), ("internal/strconv.uint64pow10", laid_internal_strconv_uint64pow10)] }
def CodeChecksSaid : Prop := codeChecksRow.holds Tryd.pinned (OpenSpec.ofChange codeChecksSpec)

/-- ITS FALSE NEIGHBOUR: 'it returns false'. Refute it at one input. -/
def codeChecksWrong : ChangeSpec := { name := "codeChecks", fn := fun _ => fun
  | [d] => { results := [.lit (.bool false)], args := [d] }
  | _ => none }
def CodeChecksWrongFalsely : Prop := codeChecksRow.holds Tryd.pinned (OpenSpec.ofChange codeChecksWrong)

/-- 'vouchlaw6.CodePlays': WHATEVER THE INPUT: true; the input reads as it did. -/
def codePlaysSpec : ChangeSpec := { name := "codePlays", fn := fun _ => fun
  | [d1, d2] => { results := [.lit (.bool true)], args := [d1, d2] }
  | _ => none }
def codePlaysRow : OpenClaim := { program := "ythjnjdpiihpgeaadoor", sum := "5e30b626e5f39faa06c660e8b5601248b407c481c2a05d27d65a00d18afa58a9", func := "vouch/vouchlaw6.CodePlays", spec := "codePlays", unfollowed := true, recurses := true, named := ["internal/strconv.uint64pow10", "math/bits.deBruijn32tab", "math/bits.deBruijn64tab"], apart := false, laid := [("math/bits.deBruijn32tab", laid_math_bits_deBruijn32tab), ("math/bits.deBruijn64tab", laid_math_bits_deBruijn64tab), ("internal/strconv.uint64pow10", laid_internal_strconv_uint64pow10)] }
def CodePlaysSaid : Prop := codePlaysRow.holds Tryd.pinned (OpenSpec.ofChange codePlaysSpec)

/-- ITS FALSE NEIGHBOUR: 'it returns false'. Refute it at one input. -/
def codePlaysWrong : ChangeSpec := { name := "codePlays", fn := fun _ => fun
  | [d1, d2] => { results := [.lit (.bool false)], args := [d1, d2] }
  | _ => none }
def CodePlaysWrongFalsely : Prop := codePlaysRow.holds Tryd.pinned (OpenSpec.ofChange codePlaysWrong)

/-- 'vouchlaw6.CodeTargets': WHATEVER THE INPUT: true; the input reads as it did. -/
def codeTargetsSpec : ChangeSpec := { name := "codeTargets", fn := fun _ => fun
  | [d] => { results := [.lit (.bool true)], args := [d] }
  | _ => none }
def codeTargetsRow : OpenClaim := { program := "ythjnjdpiihpgeaadoor", sum := "5e30b626e5f39faa06c660e8b5601248b407c481c2a05d27d65a00d18afa58a9", func := "vouch/vouchlaw6.CodeTargets", spec := "codeTargets", unfollowed := true, recurses := true, named := ["internal/strconv.uint64pow10", "math/bits.deBruijn32tab", "math/bits.deBruijn64tab"], apart := false, laid := [("math/bits.deBruijn32tab", laid_math_bits_deBruijn32tab), ("math/bits.deBruijn64tab", laid_math_bits_deBruijn64tab), ("internal/strconv.uint64pow10", laid_internal_strconv_uint64pow10)] }
def CodeTargetsSaid : Prop := codeTargetsRow.holds Tryd.pinned (OpenSpec.ofChange codeTargetsSpec)

/-- ITS FALSE NEIGHBOUR: 'it returns false'. Refute it at one input. -/
def codeTargetsWrong : ChangeSpec := { name := "codeTargets", fn := fun _ => fun
  | [d] => { results := [.lit (.bool false)], args := [d] }
  | _ => none }
def CodeTargetsWrongFalsely : Prop := codeTargetsRow.holds Tryd.pinned (OpenSpec.ofChange codeTargetsWrong)

/- THE SECOND FORM. 'bulk': how many values and letters a reading holds, each counted each time it is reached (what is shared counts as often as it is met; a slice's spare places count too). A statement '..UptoSaid' is the law's where the arguments, and the package variables that the reading takes, are together of bulk at most 1048576: NARROWER than '..Said'. Prove '..Said' where nothing that the law and all that it calls make is longer than what came in: it says more and counts as full. Else prove '..UptoSaid'. A law counts once. -/
mutual
def uptoBulk {H : Type} : DataW H → Nat
  | .lit (.string bytes) => bytes.length + 1
  | .lit _ => 1
  | .nil => 1
  | .ptr d => uptoBulk d + 1
  | .slice elems spare => uptoBulkAll elems + uptoBulkAll spare + 1
  | .agg parts => uptoBulkAll parts + 1
  | .iface _ d => uptoBulk d + 1
  | .map entries => uptoBulkEntries entries + 1
  | .held _ => 1
def uptoBulkAll {H : Type} : List (DataW H) → Nat
  | [] => 0
  | d :: r => uptoBulk d + uptoBulkAll r
def uptoBulkEntries {H : Type} : List (Lit × DataW H) → Nat
  | [] => 0
  | x :: r => uptoBulkEntry x + uptoBulkEntries r
def uptoBulkEntry {H : Type} : Lit × DataW H → Nat
  | (.string bytes, d) => bytes.length + uptoBulk d + 1
  | (_, d) => uptoBulk d + 1
 end
def uptoSmall : (H : Type) → List (DataW H) → Bool := fun _ ds => decide (uptoBulkAll ds ≤ 1048576)
def OpenSpec.upto (s : _root_.Go.ChangeSpec) : _root_.Go.OpenSpec := { _root_.Go.OpenSpec.ofChange s with cond := some uptoSmall }

/-- 'vouchlaw6.CodeWhole', WHERE WHAT IT READS IS OF BULK AT MOST 1048576: true; the input reads as it did. -/
def codeWholeUptoRow : OpenClaim := { program := "ythjnjdpiihpgeaadoor", sum := "5e30b626e5f39faa06c660e8b5601248b407c481c2a05d27d65a00d18afa58a9", func := "vouch/vouchlaw6.CodeWhole", spec := "codeWhole", unfollowed := true, recurses := true, named := ["internal/strconv.uint64pow10", "math/bits.deBruijn32tab", "math/bits.deBruijn64tab"], apart := false, laid := [("math/bits.deBruijn32tab", laid_math_bits_deBruijn32tab), ("math/bits.deBruijn64tab", laid_math_bits_deBruijn64tab), ("internal/strconv.uint64pow10", laid_internal_strconv_uint64pow10)], narrowed := true }
def CodeWholeUptoSaid : Prop := codeWholeUptoRow.holds Tryd.pinned (OpenSpec.upto codeWholeSpec)

/-- 'vouchlaw6.CodeWithin', WHERE WHAT IT READS IS OF BULK AT MOST 1048576: true; the input reads as it did. -/
def codeWithinUptoRow : OpenClaim := { program := "ythjnjdpiihpgeaadoor", sum := "5e30b626e5f39faa06c660e8b5601248b407c481c2a05d27d65a00d18afa58a9", func := "vouch/vouchlaw6.CodeWithin", spec := "codeWithin", unfollowed := true, recurses := true, named := ["internal/strconv.uint64pow10", "math/bits.deBruijn32tab", "math/bits.deBruijn64tab"], apart := false, laid := [("math/bits.deBruijn32tab", laid_math_bits_deBruijn32tab), ("math/bits.deBruijn64tab", laid_math_bits_deBruijn64tab), ("internal/strconv.uint64pow10", laid_internal_strconv_uint64pow10)], narrowed := true }
def CodeWithinUptoSaid : Prop := codeWithinUptoRow.holds Tryd.pinned (OpenSpec.upto codeWithinSpec)

/-- 'vouchlaw6.CodeOnes', WHERE WHAT IT READS IS OF BULK AT MOST 1048576: true; the input reads as it did. -/
def codeOnesUptoRow : OpenClaim := { program := "ythjnjdpiihpgeaadoor", sum := "5e30b626e5f39faa06c660e8b5601248b407c481c2a05d27d65a00d18afa58a9", func := "vouch/vouchlaw6.CodeOnes", spec := "codeOnes", unfollowed := true, recurses := true, named := ["internal/strconv.uint64pow10", "math/bits.deBruijn32tab", "math/bits.deBruijn64tab"], apart := false, laid := [("math/bits.deBruijn32tab", laid_math_bits_deBruijn32tab), ("math/bits.deBruijn64tab", laid_math_bits_deBruijn64tab), ("internal/strconv.uint64pow10", laid_internal_strconv_uint64pow10)], narrowed := true }
def CodeOnesUptoSaid : Prop := codeOnesUptoRow.holds Tryd.pinned (OpenSpec.upto codeOnesSpec)

/-- 'vouchlaw6.CodeLocal', WHERE WHAT IT READS IS OF BULK AT MOST 1048576: true; the input reads as it did. -/
def codeLocalUptoRow : OpenClaim := { program := "ythjnjdpiihpgeaadoor", sum := "5e30b626e5f39faa06c660e8b5601248b407c481c2a05d27d65a00d18afa58a9", func := "vouch/vouchlaw6.CodeLocal", spec := "codeLocal", unfollowed := true, recurses := true, named := ["internal/strconv.uint64pow10", "math/bits.deBruijn32tab", "math/bits.deBruijn64tab"], apart := false, laid := [("math/bits.deBruijn32tab", laid_math_bits_deBruijn32tab), ("math/bits.deBruijn64tab", laid_math_bits_deBruijn64tab), ("internal/strconv.uint64pow10", laid_internal_strconv_uint64pow10)], narrowed := true }
def CodeLocalUptoSaid : Prop := codeLocalUptoRow.holds Tryd.pinned (OpenSpec.upto codeLocalSpec)

/-- 'vouchlaw6.CodeAgrees', WHERE WHAT IT READS IS OF BULK AT MOST 1048576: true; the input reads as it did. -/
def codeAgreesUptoRow : OpenClaim := { program := "ythjnjdpiihpgeaadoor", sum := "5e30b626e5f39faa06c660e8b5601248b407c481c2a05d27d65a00d18afa58a9", func := "vouch/vouchlaw6.CodeAgrees", spec := "codeAgrees", unfollowed := true, recurses := true, named := ["internal/strconv.uint64pow10", "math/bits.deBruijn32tab", "math/bits.deBruijn64tab"], apart := false, laid := [("math/bits.deBruijn32tab", laid_math_bits_deBruijn32tab), ("math/bits.deBruijn64tab", laid_math_bits_deBruijn64tab), ("internal/strconv.uint64pow10", laid_internal_strconv_uint64pow10)], narrowed := true }
def CodeAgreesUptoSaid : Prop := codeAgreesUptoRow.holds Tryd.pinned (OpenSpec.upto codeAgreesSpec)

/-- 'vouchlaw6.CodeOwn', WHERE WHAT IT READS IS OF BULK AT MOST 1048576: true; the input reads as it did. -/
def codeOwnUptoRow : OpenClaim := { program := "ythjnjdpiihpgeaadoor", sum := "5e30b626e5f39faa06c660e8b5601248b407c481c2a05d27d65a00d18afa58a9", func := "vouch/vouchlaw6.CodeOwn", spec := "codeOwn", unfollowed := true, recurses := true, named := ["internal/strconv.uint64pow10", "math/bits.deBruijn32tab", "math/bits.deBruijn64tab"], apart := false, laid := [("math/bits.deBruijn32tab", laid_math_bits_deBruijn32tab), ("math/bits.deBruijn64tab", laid_math_bits_deBruijn64tab), ("internal/strconv.uint64pow10", laid_internal_strconv_uint64pow10)], narrowed := true }
def CodeOwnUptoSaid : Prop := codeOwnUptoRow.holds Tryd.pinned (OpenSpec.upto codeOwnSpec)

/-- 'vouchlaw6.CodeJumps', WHERE WHAT IT READS IS OF BULK AT MOST 1048576: true; the input reads as it did. -/
def codeJumpsUptoRow : OpenClaim := { program := "ythjnjdpiihpgeaadoor", sum := "5e30b626e5f39faa06c660e8b5601248b407c481c2a05d27d65a00d18afa58a9", func := "vouch/vouchlaw6.CodeJumps", spec := "codeJumps", unfollowed := true, recurses := true, named := ["internal/strconv.uint64pow10", "math/bits.deBruijn32tab", "math/bits.deBruijn64tab"], apart := false, laid := [("math/bits.deBruijn32tab", laid_math_bits_deBruijn32tab), ("math/bits.deBruijn64tab", laid_math_bits_deBruijn64tab), ("internal/strconv.uint64pow10", laid_internal_strconv_uint64pow10)], narrowed := true }
def CodeJumpsUptoSaid : Prop := codeJumpsUptoRow.holds Tryd.pinned (OpenSpec.upto codeJumpsSpec)

/-- 'vouchlaw6.CodeLent', WHERE WHAT IT READS IS OF BULK AT MOST 1048576: true; the input reads as it did. -/
def codeLentUptoRow : OpenClaim := { program := "ythjnjdpiihpgeaadoor", sum := "5e30b626e5f39faa06c660e8b5601248b407c481c2a05d27d65a00d18afa58a9", func := "vouch/vouchlaw6.CodeLent", spec := "codeLent", unfollowed := true, recurses := true, named := ["internal/strconv.uint64pow10", "math/bits.deBruijn32tab", "math/bits.deBruijn64tab"], apart := false, laid := [("math/bits.deBruijn32tab", laid_math_bits_deBruijn32tab), ("math/bits.deBruijn64tab", laid_math_bits_deBruijn64tab), ("internal/strconv.uint64pow10", laid_internal_strconv_uint64pow10)], narrowed := true }
def CodeLentUptoSaid : Prop := codeLentUptoRow.holds Tryd.pinned (OpenSpec.upto codeLentSpec)

/-- 'vouchlaw6.CodeLeads', WHERE WHAT IT READS IS OF BULK AT MOST 1048576: true; the input reads as it did. -/
def codeLeadsUptoRow : OpenClaim := { program := "ythjnjdpiihpgeaadoor", sum := "5e30b626e5f39faa06c660e8b5601248b407c481c2a05d27d65a00d18afa58a9", func := "vouch/vouchlaw6.CodeLeads", spec := "codeLeads", unfollowed := true, recurses := true, named := ["internal/strconv.uint64pow10", "math/bits.deBruijn32tab", "math/bits.deBruijn64tab"], apart := false, laid := [("math/bits.deBruijn32tab", laid_math_bits_deBruijn32tab), ("math/bits.deBruijn64tab", laid_math_bits_deBruijn64tab), ("internal/strconv.uint64pow10", laid_internal_strconv_uint64pow10)], narrowed := true }
def CodeLeadsUptoSaid : Prop := codeLeadsUptoRow.holds Tryd.pinned (OpenSpec.upto codeLeadsSpec)

/-- 'vouchlaw6.CodeChecks', WHERE WHAT IT READS IS OF BULK AT MOST 1048576: true; the input reads as it did. -/
def codeChecksUptoRow : OpenClaim := { program := "ythjnjdpiihpgeaadoor", sum := "5e30b626e5f39faa06c660e8b5601248b407c481c2a05d27d65a00d18afa58a9", func := "vouch/vouchlaw6.CodeChecks", spec := "codeChecks", unfollowed := true, recurses := true, named := ["internal/strconv.uint64pow10", "math/bits.deBruijn32tab", "math/bits.deBruijn64tab"], apart := false, laid := [("math/bits.deBruijn32tab", laid_math_bits_deBruijn32tab), ("math/bits.deBruijn64tab", laid_math_bits_deBruijn64tab), ("internal/strconv.uint64pow10", laid_internal_strconv_uint64pow10)], narrowed := true }
def CodeChecksUptoSaid : Prop := codeChecksUptoRow.holds Tryd.pinned (OpenSpec.upto codeChecksSpec)

/-- 'vouchlaw6.CodePlays', WHERE WHAT IT READS IS OF BULK AT MOST 1048576: true; the input reads as it did. -/
def codePlaysUptoRow : OpenClaim := { program := "ythjnjdpiihpgeaadoor", sum := "5e30b626e5f39faa06c660e8b5601248b407c481c2a05d27d65a00d18afa58a9", func := "vouch/vouchlaw6.CodePlays", spec := "codePlays", unfollowed := true, recurses := true, named := ["internal/strconv.uint64pow10", "math/bits.deBruijn32tab", "math/bits.deBruijn64tab"], apart := false, laid := [("math/bits.deBruijn32tab", laid_math_bits_deBruijn32tab), ("math/bits.deBruijn64tab", laid_math_bits_deBruijn64tab), ("internal/strconv.uint64pow10", laid_internal_strconv_uint64pow10)], narrowed := true }
def CodePlaysUptoSaid : Prop := codePlaysUptoRow.holds Tryd.pinned (OpenSpec.upto codePlaysSpec)

/-- 'vouchlaw6.CodeTargets', WHERE WHAT IT READS IS OF BULK AT MOST 1048576: true; the input reads as it did. -/
def codeTargetsUptoRow : OpenClaim := { program := "ythjnjdpiihpgeaadoor", sum := "5e30b626e5f39faa06c660e8b5601248b407c481c2a05d27d65a00d18afa58a9", func := "vouch/vouchlaw6.CodeTargets", spec := "codeTargets", unfollowed := true, recurses := true, named := ["internal/strconv.uint64pow10", "math/bits.deBruijn32tab", "math/bits.deBruijn64tab"], apart := false, laid := [("math/bits.deBruijn32tab", laid_math_bits_deBruijn32tab), ("math/bits.deBruijn64tab", laid_math_bits_deBruijn64tab), ("internal/strconv.uint64pow10", laid_internal_strconv_uint64pow10)], narrowed := true }
def CodeTargetsUptoSaid : Prop := codeTargetsUptoRow.holds Tryd.pinned (OpenSpec.upto codeTargetsSpec)

end Rows
end Go.Proofs.YthjnjdpiihpgeaaDoor
