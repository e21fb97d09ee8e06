/-
  DERIVED. GIVEN WITH THE SEED: THE CARDS: each row of YthjnjdpiihpgeaaDoorRows.lean that lists a variable, with what it lists TIED to the program's text (the seventh form; the later family's looks); each row that meets fmt, with fmt's text TOLD by the authors' own Lean function (tested against real Go, not proved from fmt's source: count such statements apart). THE CARD IS WHAT COUNTS. Prove the row's statement (the work); the ties are given (YthjnjdpiihpgeaaDoorTie.lean); close each card by the builder's one call (the guide's Derived/Test/ToyasCard.lean, 'card_holds'). Laid BY PROGRAM, IN A SANDBOX (cutbox-door.mjs). By AI agents, Wed Nov 11 2026. No macro, syntax, notation, axiom, sorry.
-/
import Derived.Test.YthjnjdpiihpgeaaDoorRows
import GoSem.ClaimSeven
namespace Go.Proofs.YthjnjdpiihpgeaaDoor
namespace Rows

/-- THE TIED CARD OF 'vouchlaw6.CodeWhole'. -/
def codeWholeCard : Claim7 := { stood := { row := codeWholeRow, standIns := [], harness := (true, "2e54ae086f55a1c56b54f3b1734d97e32456e28fcf2a744d4de302d3e570ea4e"), looks := false }, kinds := [], alts := [], laidByText := true, laidKinds := [.data, .data, .data], laidTests := true, laidLooks := .later }
def CodeWholeCardSaid : Prop := Claim7.holds Tryd.pinned (.plain (OpenSpec.ofChange codeWholeSpec)) codeWholeCard

/-- THE TIED CARD OF 'vouchlaw6.CodeWithin'. -/
def codeWithinCard : Claim7 := { stood := { row := codeWithinRow, standIns := [], harness := (true, "2e54ae086f55a1c56b54f3b1734d97e32456e28fcf2a744d4de302d3e570ea4e"), looks := false }, kinds := [], alts := [], laidByText := true, laidKinds := [.data, .data, .data], laidTests := true, laidLooks := .later }
def CodeWithinCardSaid : Prop := Claim7.holds Tryd.pinned (.plain (OpenSpec.ofChange codeWithinSpec)) codeWithinCard

/-- THE TIED CARD OF 'vouchlaw6.CodeOnes'. -/
def codeOnesCard : Claim7 := { stood := { row := codeOnesRow, standIns := [], harness := (true, "2e54ae086f55a1c56b54f3b1734d97e32456e28fcf2a744d4de302d3e570ea4e"), looks := false }, kinds := [], alts := [], laidByText := true, laidKinds := [.data, .data, .data], laidTests := true, laidLooks := .later }
def CodeOnesCardSaid : Prop := Claim7.holds Tryd.pinned (.plain (OpenSpec.ofChange codeOnesSpec)) codeOnesCard

/-- THE TIED CARD OF 'vouchlaw6.CodeLocal'. -/
def codeLocalCard : Claim7 := { stood := { row := codeLocalRow, standIns := [], harness := (true, "2e54ae086f55a1c56b54f3b1734d97e32456e28fcf2a744d4de302d3e570ea4e"), looks := false }, kinds := [], alts := [], laidByText := true, laidKinds := [.data, .data, .data], laidTests := true, laidLooks := .later }
def CodeLocalCardSaid : Prop := Claim7.holds Tryd.pinned (.plain (OpenSpec.ofChange codeLocalSpec)) codeLocalCard

/-- THE TIED CARD OF 'vouchlaw6.CodeAgrees'. -/
def codeAgreesCard : Claim7 := { stood := { row := codeAgreesRow, standIns := [], harness := (true, "2e54ae086f55a1c56b54f3b1734d97e32456e28fcf2a744d4de302d3e570ea4e"), looks := false }, kinds := [], alts := [], laidByText := true, laidKinds := [.data, .data, .data], laidTests := true, laidLooks := .later }
def CodeAgreesCardSaid : Prop := Claim7.holds Tryd.pinned (.plain (OpenSpec.ofChange codeAgreesSpec)) codeAgreesCard

/-- THE TIED CARD OF 'vouchlaw6.CodeOwn'. -/
def codeOwnCard : Claim7 := { stood := { row := codeOwnRow, standIns := [], harness := (true, "2e54ae086f55a1c56b54f3b1734d97e32456e28fcf2a744d4de302d3e570ea4e"), looks := false }, kinds := [], alts := [], laidByText := true, laidKinds := [.data, .data, .data], laidTests := true, laidLooks := .later }
def CodeOwnCardSaid : Prop := Claim7.holds Tryd.pinned (.plain (OpenSpec.ofChange codeOwnSpec)) codeOwnCard

/-- THE TIED CARD OF 'vouchlaw6.CodeJumps'. -/
def codeJumpsCard : Claim7 := { stood := { row := codeJumpsRow, standIns := [], harness := (true, "2e54ae086f55a1c56b54f3b1734d97e32456e28fcf2a744d4de302d3e570ea4e"), looks := false }, kinds := [], alts := [], laidByText := true, laidKinds := [.data, .data, .data], laidTests := true, laidLooks := .later }
def CodeJumpsCardSaid : Prop := Claim7.holds Tryd.pinned (.plain (OpenSpec.ofChange codeJumpsSpec)) codeJumpsCard

/-- THE TIED CARD OF 'vouchlaw6.CodeLent'. -/
def codeLentCard : Claim7 := { stood := { row := codeLentRow, standIns := [], harness := (true, "2e54ae086f55a1c56b54f3b1734d97e32456e28fcf2a744d4de302d3e570ea4e"), looks := false }, kinds := [], alts := [], laidByText := true, laidKinds := [.data, .data, .data], laidTests := true, laidLooks := .later }
def CodeLentCardSaid : Prop := Claim7.holds Tryd.pinned (.plain (OpenSpec.ofChange codeLentSpec)) codeLentCard

/-- THE TIED CARD OF 'vouchlaw6.CodeLeads'. -/
def codeLeadsCard : Claim7 := { stood := { row := codeLeadsRow, standIns := [], harness := (true, "2e54ae086f55a1c56b54f3b1734d97e32456e28fcf2a744d4de302d3e570ea4e"), looks := false }, kinds := [], alts := [], laidByText := true, laidKinds := [.data, .data, .data], laidTests := true, laidLooks := .later }
def CodeLeadsCardSaid : Prop := Claim7.holds Tryd.pinned (.plain (OpenSpec.ofChange codeLeadsSpec)) codeLeadsCard

/-- THE TIED CARD OF 'vouchlaw6.CodeChecks'. -/
def codeChecksCard : Claim7 := { stood := { row := codeChecksRow, standIns := [], harness := (true, "2e54ae086f55a1c56b54f3b1734d97e32456e28fcf2a744d4de302d3e570ea4e"), looks := false }, kinds := [], alts := [], laidByText := true, laidKinds := [.data, .data, .data], laidTests := true, laidLooks := .later }
def CodeChecksCardSaid : Prop := Claim7.holds Tryd.pinned (.plain (OpenSpec.ofChange codeChecksSpec)) codeChecksCard

/-- THE TIED CARD OF 'vouchlaw6.CodePlays'. -/
def codePlaysCard : Claim7 := { stood := { row := codePlaysRow, standIns := [], harness := (true, "2e54ae086f55a1c56b54f3b1734d97e32456e28fcf2a744d4de302d3e570ea4e"), looks := false }, kinds := [], alts := [], laidByText := true, laidKinds := [.data, .data, .data], laidTests := true, laidLooks := .later }
def CodePlaysCardSaid : Prop := Claim7.holds Tryd.pinned (.plain (OpenSpec.ofChange codePlaysSpec)) codePlaysCard

/-- THE TIED CARD OF 'vouchlaw6.CodeTargets'. -/
def codeTargetsCard : Claim7 := { stood := { row := codeTargetsRow, standIns := [], harness := (true, "2e54ae086f55a1c56b54f3b1734d97e32456e28fcf2a744d4de302d3e570ea4e"), looks := false }, kinds := [], alts := [], laidByText := true, laidKinds := [.data, .data, .data], laidTests := true, laidLooks := .later }
def CodeTargetsCardSaid : Prop := Claim7.holds Tryd.pinned (.plain (OpenSpec.ofChange codeTargetsSpec)) codeTargetsCard

/-- THE SECOND FORM's CARD OF 'vouchlaw6.CodeWhole'. -/
def codeWholeUptoCard : Claim7 := { stood := { row := codeWholeUptoRow, standIns := [], harness := (true, "2e54ae086f55a1c56b54f3b1734d97e32456e28fcf2a744d4de302d3e570ea4e"), looks := false }, kinds := [], alts := [], laidByText := true, laidKinds := [.data, .data, .data], laidTests := true, laidLooks := .later }
def CodeWholeUptoCardSaid : Prop := Claim7.holds Tryd.pinned (.plain (OpenSpec.upto codeWholeSpec)) codeWholeUptoCard

/-- THE SECOND FORM's CARD OF 'vouchlaw6.CodeWithin'. -/
def codeWithinUptoCard : Claim7 := { stood := { row := codeWithinUptoRow, standIns := [], harness := (true, "2e54ae086f55a1c56b54f3b1734d97e32456e28fcf2a744d4de302d3e570ea4e"), looks := false }, kinds := [], alts := [], laidByText := true, laidKinds := [.data, .data, .data], laidTests := true, laidLooks := .later }
def CodeWithinUptoCardSaid : Prop := Claim7.holds Tryd.pinned (.plain (OpenSpec.upto codeWithinSpec)) codeWithinUptoCard

/-- THE SECOND FORM's CARD OF 'vouchlaw6.CodeOnes'. -/
def codeOnesUptoCard : Claim7 := { stood := { row := codeOnesUptoRow, standIns := [], harness := (true, "2e54ae086f55a1c56b54f3b1734d97e32456e28fcf2a744d4de302d3e570ea4e"), looks := false }, kinds := [], alts := [], laidByText := true, laidKinds := [.data, .data, .data], laidTests := true, laidLooks := .later }
def CodeOnesUptoCardSaid : Prop := Claim7.holds Tryd.pinned (.plain (OpenSpec.upto codeOnesSpec)) codeOnesUptoCard

/-- THE SECOND FORM's CARD OF 'vouchlaw6.CodeLocal'. -/
def codeLocalUptoCard : Claim7 := { stood := { row := codeLocalUptoRow, standIns := [], harness := (true, "2e54ae086f55a1c56b54f3b1734d97e32456e28fcf2a744d4de302d3e570ea4e"), looks := false }, kinds := [], alts := [], laidByText := true, laidKinds := [.data, .data, .data], laidTests := true, laidLooks := .later }
def CodeLocalUptoCardSaid : Prop := Claim7.holds Tryd.pinned (.plain (OpenSpec.upto codeLocalSpec)) codeLocalUptoCard

/-- THE SECOND FORM's CARD OF 'vouchlaw6.CodeAgrees'. -/
def codeAgreesUptoCard : Claim7 := { stood := { row := codeAgreesUptoRow, standIns := [], harness := (true, "2e54ae086f55a1c56b54f3b1734d97e32456e28fcf2a744d4de302d3e570ea4e"), looks := false }, kinds := [], alts := [], laidByText := true, laidKinds := [.data, .data, .data], laidTests := true, laidLooks := .later }
def CodeAgreesUptoCardSaid : Prop := Claim7.holds Tryd.pinned (.plain (OpenSpec.upto codeAgreesSpec)) codeAgreesUptoCard

/-- THE SECOND FORM's CARD OF 'vouchlaw6.CodeOwn'. -/
def codeOwnUptoCard : Claim7 := { stood := { row := codeOwnUptoRow, standIns := [], harness := (true, "2e54ae086f55a1c56b54f3b1734d97e32456e28fcf2a744d4de302d3e570ea4e"), looks := false }, kinds := [], alts := [], laidByText := true, laidKinds := [.data, .data, .data], laidTests := true, laidLooks := .later }
def CodeOwnUptoCardSaid : Prop := Claim7.holds Tryd.pinned (.plain (OpenSpec.upto codeOwnSpec)) codeOwnUptoCard

/-- THE SECOND FORM's CARD OF 'vouchlaw6.CodeJumps'. -/
def codeJumpsUptoCard : Claim7 := { stood := { row := codeJumpsUptoRow, standIns := [], harness := (true, "2e54ae086f55a1c56b54f3b1734d97e32456e28fcf2a744d4de302d3e570ea4e"), looks := false }, kinds := [], alts := [], laidByText := true, laidKinds := [.data, .data, .data], laidTests := true, laidLooks := .later }
def CodeJumpsUptoCardSaid : Prop := Claim7.holds Tryd.pinned (.plain (OpenSpec.upto codeJumpsSpec)) codeJumpsUptoCard

/-- THE SECOND FORM's CARD OF 'vouchlaw6.CodeLent'. -/
def codeLentUptoCard : Claim7 := { stood := { row := codeLentUptoRow, standIns := [], harness := (true, "2e54ae086f55a1c56b54f3b1734d97e32456e28fcf2a744d4de302d3e570ea4e"), looks := false }, kinds := [], alts := [], laidByText := true, laidKinds := [.data, .data, .data], laidTests := true, laidLooks := .later }
def CodeLentUptoCardSaid : Prop := Claim7.holds Tryd.pinned (.plain (OpenSpec.upto codeLentSpec)) codeLentUptoCard

/-- THE SECOND FORM's CARD OF 'vouchlaw6.CodeLeads'. -/
def codeLeadsUptoCard : Claim7 := { stood := { row := codeLeadsUptoRow, standIns := [], harness := (true, "2e54ae086f55a1c56b54f3b1734d97e32456e28fcf2a744d4de302d3e570ea4e"), looks := false }, kinds := [], alts := [], laidByText := true, laidKinds := [.data, .data, .data], laidTests := true, laidLooks := .later }
def CodeLeadsUptoCardSaid : Prop := Claim7.holds Tryd.pinned (.plain (OpenSpec.upto codeLeadsSpec)) codeLeadsUptoCard

/-- THE SECOND FORM's CARD OF 'vouchlaw6.CodeChecks'. -/
def codeChecksUptoCard : Claim7 := { stood := { row := codeChecksUptoRow, standIns := [], harness := (true, "2e54ae086f55a1c56b54f3b1734d97e32456e28fcf2a744d4de302d3e570ea4e"), looks := false }, kinds := [], alts := [], laidByText := true, laidKinds := [.data, .data, .data], laidTests := true, laidLooks := .later }
def CodeChecksUptoCardSaid : Prop := Claim7.holds Tryd.pinned (.plain (OpenSpec.upto codeChecksSpec)) codeChecksUptoCard

/-- THE SECOND FORM's CARD OF 'vouchlaw6.CodePlays'. -/
def codePlaysUptoCard : Claim7 := { stood := { row := codePlaysUptoRow, standIns := [], harness := (true, "2e54ae086f55a1c56b54f3b1734d97e32456e28fcf2a744d4de302d3e570ea4e"), looks := false }, kinds := [], alts := [], laidByText := true, laidKinds := [.data, .data, .data], laidTests := true, laidLooks := .later }
def CodePlaysUptoCardSaid : Prop := Claim7.holds Tryd.pinned (.plain (OpenSpec.upto codePlaysSpec)) codePlaysUptoCard

/-- THE SECOND FORM's CARD OF 'vouchlaw6.CodeTargets'. -/
def codeTargetsUptoCard : Claim7 := { stood := { row := codeTargetsUptoRow, standIns := [], harness := (true, "2e54ae086f55a1c56b54f3b1734d97e32456e28fcf2a744d4de302d3e570ea4e"), looks := false }, kinds := [], alts := [], laidByText := true, laidKinds := [.data, .data, .data], laidTests := true, laidLooks := .later }
def CodeTargetsUptoCardSaid : Prop := Claim7.holds Tryd.pinned (.plain (OpenSpec.upto codeTargetsSpec)) codeTargetsUptoCard
end Rows
end Go.Proofs.YthjnjdpiihpgeaaDoor
