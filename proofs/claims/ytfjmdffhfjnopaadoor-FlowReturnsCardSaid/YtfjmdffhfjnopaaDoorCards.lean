/-
  DERIVED. GIVEN WITH THE SEED: THE CARDS: each row of YtfjmdffhfjnopaaDoorRows.lean that lists a variable, with what it lists TIED to the program's text (the seventh form; the later family's looks); each row that meets fmt, with fmt's text TOLD by the authors' own Lean function (tested against real Go, not proved from fmt's source: count such statements apart). THE CARD IS WHAT COUNTS. Prove the row's statement (the work); the ties are given (YtfjmdffhfjnopaaDoorTie.lean); close each card by the builder's one call (the guide's Derived/Test/ToyasCard.lean, 'card_holds'). Laid BY PROGRAM, IN A SANDBOX (cutbox-door.mjs). By AI agents, Wed Nov 11 2026. No macro, syntax, notation, axiom, sorry.
-/
import Derived.Test.YtfjmdffhfjnopaaDoorRows
import GoSem.ClaimSeven
namespace Go.Proofs.YtfjmdffhfjnopaaDoor
namespace Rows

/-- THE TIED CARD OF 'vouchlaw7.FlowHeights'. -/
def flowHeightsCard : Claim7 := { stood := { row := flowHeightsRow, standIns := [], harness := (true, "507154ce7c25fd13242a64ba089d066d42dad6c7241bd6b2eeaf8c6ea1744889"), looks := false }, kinds := [], alts := [], laidByText := true, laidKinds := [.data, .data, .data], laidTests := true, laidLooks := .later }
def FlowHeightsCardSaid : Prop := Claim7.holds Tryd.pinned (.plain (OpenSpec.ofChange flowHeightsSpec)) flowHeightsCard

/-- THE TIED CARD OF 'vouchlaw7.FlowJudged'. -/
def flowJudgedCard : Claim7 := { stood := { row := flowJudgedRow, standIns := [], harness := (true, "507154ce7c25fd13242a64ba089d066d42dad6c7241bd6b2eeaf8c6ea1744889"), looks := false }, kinds := [], alts := [], laidByText := true, laidKinds := [.data, .data, .data], laidTests := true, laidLooks := .later }
def FlowJudgedCardSaid : Prop := Claim7.holds Tryd.pinned (.plain (OpenSpec.ofChange flowJudgedSpec)) flowJudgedCard

/-- THE TIED CARD OF 'vouchlaw7.FlowMet'. -/
def flowMetCard : Claim7 := { stood := { row := flowMetRow, standIns := [], harness := (true, "507154ce7c25fd13242a64ba089d066d42dad6c7241bd6b2eeaf8c6ea1744889"), looks := false }, kinds := [], alts := [], laidByText := true, laidKinds := [.data, .data, .data], laidTests := true, laidLooks := .later }
def FlowMetCardSaid : Prop := Claim7.holds Tryd.pinned (.plain (OpenSpec.ofChange flowMetSpec)) flowMetCard

/-- THE TIED CARD OF 'vouchlaw7.FlowMoved'. -/
def flowMovedCard : Claim7 := { stood := { row := flowMovedRow, standIns := [], harness := (true, "507154ce7c25fd13242a64ba089d066d42dad6c7241bd6b2eeaf8c6ea1744889"), looks := false }, kinds := [], alts := [], laidByText := true, laidKinds := [.data, .data, .data], laidTests := true, laidLooks := .later }
def FlowMovedCardSaid : Prop := Claim7.holds Tryd.pinned (.plain (OpenSpec.ofChange flowMovedSpec)) flowMovedCard

/-- THE TIED CARD OF 'vouchlaw7.FlowNamed'. -/
def flowNamedCard : Claim7 := { stood := { row := flowNamedRow, standIns := [], harness := (true, "507154ce7c25fd13242a64ba089d066d42dad6c7241bd6b2eeaf8c6ea1744889"), looks := false }, kinds := [], alts := [], laidByText := true, laidKinds := [.data, .data, .data], laidTests := true, laidLooks := .later }
def FlowNamedCardSaid : Prop := Claim7.holds Tryd.pinned (.plain (OpenSpec.ofChange flowNamedSpec)) flowNamedCard

/-- THE TIED CARD OF 'vouchlaw7.FlowStraight'. -/
def flowStraightCard : Claim7 := { stood := { row := flowStraightRow, standIns := [], harness := (true, "507154ce7c25fd13242a64ba089d066d42dad6c7241bd6b2eeaf8c6ea1744889"), looks := false }, kinds := [], alts := [], laidByText := true, laidKinds := [.data, .data, .data], laidTests := true, laidLooks := .later }
def FlowStraightCardSaid : Prop := Claim7.holds Tryd.pinned (.plain (OpenSpec.ofChange flowStraightSpec)) flowStraightCard

/-- THE TIED CARD OF 'vouchlaw7.FlowFresh'. -/
def flowFreshCard : Claim7 := { stood := { row := flowFreshRow, standIns := [], harness := (true, "507154ce7c25fd13242a64ba089d066d42dad6c7241bd6b2eeaf8c6ea1744889"), looks := false }, kinds := [], alts := [], laidByText := true, laidKinds := [.data, .data, .data], laidTests := true, laidLooks := .later }
def FlowFreshCardSaid : Prop := Claim7.holds Tryd.pinned (.plain (OpenSpec.ofChange flowFreshSpec)) flowFreshCard

/-- THE TIED CARD OF 'vouchlaw7.FlowWalks'. -/
def flowWalksCard : Claim7 := { stood := { row := flowWalksRow, standIns := [], harness := (true, "507154ce7c25fd13242a64ba089d066d42dad6c7241bd6b2eeaf8c6ea1744889"), looks := false }, kinds := [], alts := [], laidByText := true, laidKinds := [.data, .data, .data], laidTests := true, laidLooks := .later }
def FlowWalksCardSaid : Prop := Claim7.holds Tryd.pinned (.plain (OpenSpec.ofChange flowWalksSpec)) flowWalksCard

/-- THE TIED CARD OF 'vouchlaw7.FlowMost'. -/
def flowMostCard : Claim7 := { stood := { row := flowMostRow, standIns := [], harness := (true, "507154ce7c25fd13242a64ba089d066d42dad6c7241bd6b2eeaf8c6ea1744889"), looks := false }, kinds := [], alts := [], laidByText := true, laidKinds := [.data, .data, .data], laidTests := true, laidLooks := .later }
def FlowMostCardSaid : Prop := Claim7.holds Tryd.pinned (.plain (OpenSpec.ofChange flowMostSpec)) flowMostCard

/-- THE TIED CARD OF 'vouchlaw7.FlowReturns'. -/
def flowReturnsCard : Claim7 := { stood := { row := flowReturnsRow, standIns := [], harness := (true, "507154ce7c25fd13242a64ba089d066d42dad6c7241bd6b2eeaf8c6ea1744889"), looks := false }, kinds := [], alts := [], laidByText := true, laidKinds := [.data, .data, .data], laidTests := true, laidLooks := .later }
def FlowReturnsCardSaid : Prop := Claim7.holds Tryd.pinned (.plain (OpenSpec.ofChange flowReturnsSpec)) flowReturnsCard

/-- THE TIED CARD OF 'vouchlaw7.FlowAll'. -/
def flowAllCard : Claim7 := { stood := { row := flowAllRow, standIns := [], harness := (true, "507154ce7c25fd13242a64ba089d066d42dad6c7241bd6b2eeaf8c6ea1744889"), looks := false }, kinds := [], alts := [], laidByText := true, laidKinds := [.data, .data, .data], laidTests := true, laidLooks := .later }
def FlowAllCardSaid : Prop := Claim7.holds Tryd.pinned (.plain (OpenSpec.ofChange flowAllSpec)) flowAllCard

/-- THE SECOND FORM's CARD OF 'vouchlaw7.FlowHeights'. -/
def flowHeightsUptoCard : Claim7 := { stood := { row := flowHeightsUptoRow, standIns := [], harness := (true, "507154ce7c25fd13242a64ba089d066d42dad6c7241bd6b2eeaf8c6ea1744889"), looks := false }, kinds := [], alts := [], laidByText := true, laidKinds := [.data, .data, .data], laidTests := true, laidLooks := .later }
def FlowHeightsUptoCardSaid : Prop := Claim7.holds Tryd.pinned (.plain (OpenSpec.upto flowHeightsSpec)) flowHeightsUptoCard

/-- THE SECOND FORM's CARD OF 'vouchlaw7.FlowJudged'. -/
def flowJudgedUptoCard : Claim7 := { stood := { row := flowJudgedUptoRow, standIns := [], harness := (true, "507154ce7c25fd13242a64ba089d066d42dad6c7241bd6b2eeaf8c6ea1744889"), looks := false }, kinds := [], alts := [], laidByText := true, laidKinds := [.data, .data, .data], laidTests := true, laidLooks := .later }
def FlowJudgedUptoCardSaid : Prop := Claim7.holds Tryd.pinned (.plain (OpenSpec.upto flowJudgedSpec)) flowJudgedUptoCard

/-- THE SECOND FORM's CARD OF 'vouchlaw7.FlowMet'. -/
def flowMetUptoCard : Claim7 := { stood := { row := flowMetUptoRow, standIns := [], harness := (true, "507154ce7c25fd13242a64ba089d066d42dad6c7241bd6b2eeaf8c6ea1744889"), looks := false }, kinds := [], alts := [], laidByText := true, laidKinds := [.data, .data, .data], laidTests := true, laidLooks := .later }
def FlowMetUptoCardSaid : Prop := Claim7.holds Tryd.pinned (.plain (OpenSpec.upto flowMetSpec)) flowMetUptoCard

/-- THE SECOND FORM's CARD OF 'vouchlaw7.FlowMoved'. -/
def flowMovedUptoCard : Claim7 := { stood := { row := flowMovedUptoRow, standIns := [], harness := (true, "507154ce7c25fd13242a64ba089d066d42dad6c7241bd6b2eeaf8c6ea1744889"), looks := false }, kinds := [], alts := [], laidByText := true, laidKinds := [.data, .data, .data], laidTests := true, laidLooks := .later }
def FlowMovedUptoCardSaid : Prop := Claim7.holds Tryd.pinned (.plain (OpenSpec.upto flowMovedSpec)) flowMovedUptoCard

/-- THE SECOND FORM's CARD OF 'vouchlaw7.FlowNamed'. -/
def flowNamedUptoCard : Claim7 := { stood := { row := flowNamedUptoRow, standIns := [], harness := (true, "507154ce7c25fd13242a64ba089d066d42dad6c7241bd6b2eeaf8c6ea1744889"), looks := false }, kinds := [], alts := [], laidByText := true, laidKinds := [.data, .data, .data], laidTests := true, laidLooks := .later }
def FlowNamedUptoCardSaid : Prop := Claim7.holds Tryd.pinned (.plain (OpenSpec.upto flowNamedSpec)) flowNamedUptoCard

/-- THE SECOND FORM's CARD OF 'vouchlaw7.FlowStraight'. -/
def flowStraightUptoCard : Claim7 := { stood := { row := flowStraightUptoRow, standIns := [], harness := (true, "507154ce7c25fd13242a64ba089d066d42dad6c7241bd6b2eeaf8c6ea1744889"), looks := false }, kinds := [], alts := [], laidByText := true, laidKinds := [.data, .data, .data], laidTests := true, laidLooks := .later }
def FlowStraightUptoCardSaid : Prop := Claim7.holds Tryd.pinned (.plain (OpenSpec.upto flowStraightSpec)) flowStraightUptoCard

/-- THE SECOND FORM's CARD OF 'vouchlaw7.FlowFresh'. -/
def flowFreshUptoCard : Claim7 := { stood := { row := flowFreshUptoRow, standIns := [], harness := (true, "507154ce7c25fd13242a64ba089d066d42dad6c7241bd6b2eeaf8c6ea1744889"), looks := false }, kinds := [], alts := [], laidByText := true, laidKinds := [.data, .data, .data], laidTests := true, laidLooks := .later }
def FlowFreshUptoCardSaid : Prop := Claim7.holds Tryd.pinned (.plain (OpenSpec.upto flowFreshSpec)) flowFreshUptoCard

/-- THE SECOND FORM's CARD OF 'vouchlaw7.FlowWalks'. -/
def flowWalksUptoCard : Claim7 := { stood := { row := flowWalksUptoRow, standIns := [], harness := (true, "507154ce7c25fd13242a64ba089d066d42dad6c7241bd6b2eeaf8c6ea1744889"), looks := false }, kinds := [], alts := [], laidByText := true, laidKinds := [.data, .data, .data], laidTests := true, laidLooks := .later }
def FlowWalksUptoCardSaid : Prop := Claim7.holds Tryd.pinned (.plain (OpenSpec.upto flowWalksSpec)) flowWalksUptoCard

/-- THE SECOND FORM's CARD OF 'vouchlaw7.FlowMost'. -/
def flowMostUptoCard : Claim7 := { stood := { row := flowMostUptoRow, standIns := [], harness := (true, "507154ce7c25fd13242a64ba089d066d42dad6c7241bd6b2eeaf8c6ea1744889"), looks := false }, kinds := [], alts := [], laidByText := true, laidKinds := [.data, .data, .data], laidTests := true, laidLooks := .later }
def FlowMostUptoCardSaid : Prop := Claim7.holds Tryd.pinned (.plain (OpenSpec.upto flowMostSpec)) flowMostUptoCard

/-- THE SECOND FORM's CARD OF 'vouchlaw7.FlowReturns'. -/
def flowReturnsUptoCard : Claim7 := { stood := { row := flowReturnsUptoRow, standIns := [], harness := (true, "507154ce7c25fd13242a64ba089d066d42dad6c7241bd6b2eeaf8c6ea1744889"), looks := false }, kinds := [], alts := [], laidByText := true, laidKinds := [.data, .data, .data], laidTests := true, laidLooks := .later }
def FlowReturnsUptoCardSaid : Prop := Claim7.holds Tryd.pinned (.plain (OpenSpec.upto flowReturnsSpec)) flowReturnsUptoCard

/-- THE SECOND FORM's CARD OF 'vouchlaw7.FlowAll'. -/
def flowAllUptoCard : Claim7 := { stood := { row := flowAllUptoRow, standIns := [], harness := (true, "507154ce7c25fd13242a64ba089d066d42dad6c7241bd6b2eeaf8c6ea1744889"), looks := false }, kinds := [], alts := [], laidByText := true, laidKinds := [.data, .data, .data], laidTests := true, laidLooks := .later }
def FlowAllUptoCardSaid : Prop := Claim7.holds Tryd.pinned (.plain (OpenSpec.upto flowAllSpec)) flowAllUptoCard
end Rows
end Go.Proofs.YtfjmdffhfjnopaaDoor
