/-
  DERIVED. GIVEN WITH THE SEED: THE CARDS: each row of YtchhbifldfnppaaDoorRows.lean that lists a variable, with what it lists TIED to the program's text (the seventh form; the later family's looks); each row that meets fmt, with fmt's text TOLD by the authors' own Lean function (tested against real Go, not proved from fmt's source: count such statements apart). THE CARD IS WHAT COUNTS. Prove the row's statement (the work); the ties are given (YtchhbifldfnppaaDoorTie.lean); close each card by the builder's one call (the guide's Derived/Test/ToyasCard.lean, 'card_holds'). Laid BY PROGRAM, IN A SANDBOX (cutbox-door.mjs). By AI agents, Wed Nov 11 2026. No macro, syntax, notation, axiom, sorry.
-/
import Derived.Test.YtchhbifldfnppaaDoorRows
import GoSem.ClaimSeven
namespace Go.Proofs.YtchhbifldfnppaaDoor
namespace Rows

/-- THE TIED CARD OF 'vouchlaw4.OpOf'. -/
def opOfCard : Claim7 := { stood := { row := opOfRow, standIns := [], harness := (true, "603a65015ca5c5b24105d0753bb27a878107cd084ac040aedf9476ccd414b7fd"), looks := false }, kinds := [], alts := [], laidByText := true, laidKinds := [.data, .data, .data], laidTests := true, laidLooks := .later }
def OpOfCardSaid : Prop := Claim7.holds Tryd.pinned (.plain (OpenSpec.ofChange opOfSpec)) opOfCard

/-- THE TIED CARD OF 'vouchlaw4.OpAll'. -/
def opAllCard : Claim7 := { stood := { row := opAllRow, standIns := [], harness := (true, "603a65015ca5c5b24105d0753bb27a878107cd084ac040aedf9476ccd414b7fd"), looks := false }, kinds := [], alts := [], laidByText := true, laidKinds := [.data, .data, .data], laidTests := true, laidLooks := .later }
def OpAllCardSaid : Prop := Claim7.holds Tryd.pinned (.plain (OpenSpec.ofChange opAllSpec)) opAllCard

/-- THE TIED CARD OF 'vouchlaw4.OpNamed'. -/
def opNamedCard : Claim7 := { stood := { row := opNamedRow, standIns := [], harness := (true, "603a65015ca5c5b24105d0753bb27a878107cd084ac040aedf9476ccd414b7fd"), looks := false }, kinds := [], alts := [], laidByText := true, laidKinds := [.data, .data, .data], laidTests := true, laidLooks := .later }
def OpNamedCardSaid : Prop := Claim7.holds Tryd.pinned (.plain (OpenSpec.ofChange opNamedSpec)) opNamedCard

/-- THE TIED CARD OF 'vouchlaw4.OpRows'. -/
def opRowsCard : Claim7 := { stood := { row := opRowsRow, standIns := [], harness := (true, "603a65015ca5c5b24105d0753bb27a878107cd084ac040aedf9476ccd414b7fd"), looks := false }, kinds := [], alts := [], laidByText := true, laidKinds := [.data, .data, .data], laidTests := true, laidLooks := .later }
def OpRowsCardSaid : Prop := Claim7.holds Tryd.pinned (.plain (OpenSpec.ofChange opRowsSpec)) opRowsCard

/-- THE TIED CARD OF 'vouchlaw4.OpNeeds'. -/
def opNeedsCard : Claim7 := { stood := { row := opNeedsRow, standIns := [], harness := (true, "603a65015ca5c5b24105d0753bb27a878107cd084ac040aedf9476ccd414b7fd"), looks := false }, kinds := [], alts := [], laidByText := true, laidKinds := [.data, .data, .data], laidTests := true, laidLooks := .later }
def OpNeedsCardSaid : Prop := Claim7.holds Tryd.pinned (.plain (OpenSpec.ofChange opNeedsSpec)) opNeedsCard

/-- THE TIED CARD OF 'vouchlaw4.OpFits'. -/
def opFitsCard : Claim7 := { stood := { row := opFitsRow, standIns := [], harness := (true, "603a65015ca5c5b24105d0753bb27a878107cd084ac040aedf9476ccd414b7fd"), looks := false }, kinds := [], alts := [], laidByText := true, laidKinds := [.data, .data, .data], laidTests := true, laidLooks := .later }
def OpFitsCardSaid : Prop := Claim7.holds Tryd.pinned (.plain (OpenSpec.ofChange opFitsSpec)) opFitsCard

/-- THE SECOND FORM's CARD OF 'vouchlaw4.OpOf'. -/
def opOfUptoCard : Claim7 := { stood := { row := opOfUptoRow, standIns := [], harness := (true, "603a65015ca5c5b24105d0753bb27a878107cd084ac040aedf9476ccd414b7fd"), looks := false }, kinds := [], alts := [], laidByText := true, laidKinds := [.data, .data, .data], laidTests := true, laidLooks := .later }
def OpOfUptoCardSaid : Prop := Claim7.holds Tryd.pinned (.plain (OpenSpec.upto opOfSpec)) opOfUptoCard

/-- THE SECOND FORM's CARD OF 'vouchlaw4.OpAll'. -/
def opAllUptoCard : Claim7 := { stood := { row := opAllUptoRow, standIns := [], harness := (true, "603a65015ca5c5b24105d0753bb27a878107cd084ac040aedf9476ccd414b7fd"), looks := false }, kinds := [], alts := [], laidByText := true, laidKinds := [.data, .data, .data], laidTests := true, laidLooks := .later }
def OpAllUptoCardSaid : Prop := Claim7.holds Tryd.pinned (.plain (OpenSpec.upto opAllSpec)) opAllUptoCard

/-- THE SECOND FORM's CARD OF 'vouchlaw4.OpNamed'. -/
def opNamedUptoCard : Claim7 := { stood := { row := opNamedUptoRow, standIns := [], harness := (true, "603a65015ca5c5b24105d0753bb27a878107cd084ac040aedf9476ccd414b7fd"), looks := false }, kinds := [], alts := [], laidByText := true, laidKinds := [.data, .data, .data], laidTests := true, laidLooks := .later }
def OpNamedUptoCardSaid : Prop := Claim7.holds Tryd.pinned (.plain (OpenSpec.upto opNamedSpec)) opNamedUptoCard

/-- THE SECOND FORM's CARD OF 'vouchlaw4.OpRows'. -/
def opRowsUptoCard : Claim7 := { stood := { row := opRowsUptoRow, standIns := [], harness := (true, "603a65015ca5c5b24105d0753bb27a878107cd084ac040aedf9476ccd414b7fd"), looks := false }, kinds := [], alts := [], laidByText := true, laidKinds := [.data, .data, .data], laidTests := true, laidLooks := .later }
def OpRowsUptoCardSaid : Prop := Claim7.holds Tryd.pinned (.plain (OpenSpec.upto opRowsSpec)) opRowsUptoCard

/-- THE SECOND FORM's CARD OF 'vouchlaw4.OpNeeds'. -/
def opNeedsUptoCard : Claim7 := { stood := { row := opNeedsUptoRow, standIns := [], harness := (true, "603a65015ca5c5b24105d0753bb27a878107cd084ac040aedf9476ccd414b7fd"), looks := false }, kinds := [], alts := [], laidByText := true, laidKinds := [.data, .data, .data], laidTests := true, laidLooks := .later }
def OpNeedsUptoCardSaid : Prop := Claim7.holds Tryd.pinned (.plain (OpenSpec.upto opNeedsSpec)) opNeedsUptoCard

/-- THE SECOND FORM's CARD OF 'vouchlaw4.OpFits'. -/
def opFitsUptoCard : Claim7 := { stood := { row := opFitsUptoRow, standIns := [], harness := (true, "603a65015ca5c5b24105d0753bb27a878107cd084ac040aedf9476ccd414b7fd"), looks := false }, kinds := [], alts := [], laidByText := true, laidKinds := [.data, .data, .data], laidTests := true, laidLooks := .later }
def OpFitsUptoCardSaid : Prop := Claim7.holds Tryd.pinned (.plain (OpenSpec.upto opFitsSpec)) opFitsUptoCard
end Rows
end Go.Proofs.YtchhbifldfnppaaDoor
