/-
  DERIVED. GIVEN WITH THE SEED: THE CARDS: each row of YtafignheedbnbaaGreatDoorRows.lean that lists a variable, with what it lists TIED to the program's text (the seventh form; the later family's looks); each row that meets fmt, with fmt's text TOLD by the authors' own Lean function (tested against real Go, not proved from fmt's source: count such statements apart). THE CARD IS WHAT COUNTS. Prove the row's statement (the work); the ties are given (YtafignheedbnbaaGreatDoorTie.lean); close each card by the builder's one call (the guide's Derived/Test/ToyasCard.lean, 'card_holds'). Laid BY PROGRAM, IN A SANDBOX (cutbox-door.mjs). By AI agents, Wed Nov 11 2026. No macro, syntax, notation, axiom, sorry.
-/
import Derived.Test.YtafignheedbnbaaGreatDoorRows
import GoSem.ClaimSeven
namespace Go.Proofs.YtafignheedbnbaaGreatDoor
namespace Rows

/-- THE TIED CARD OF 'tandemlaw12.PrimSums'. -/
def primSumsCard : Claim7 := { stood := { row := primSumsRow, standIns := [], harness := (true, "7bcf4e3a1b02cad2a310991897f675d74e81afef8942b6260ad9de8b81f0e2f2"), looks := true }, kinds := [], alts := [], laidByText := true, laidKinds := [.data, .data, .data, .sentinel, .sentinel], laidTests := true, laidLooks := .later }
def PrimSumsCardSaid : Prop := Claim7.holds Tryz.pinned (.plain (OpenSpec.ofChange primSumsSpec)) primSumsCard

/-- THE TIED CARD OF 'tandemlaw12.PrimChains'. -/
def primChainsCard : Claim7 := { stood := { row := primChainsRow, standIns := [], harness := (true, "7bcf4e3a1b02cad2a310991897f675d74e81afef8942b6260ad9de8b81f0e2f2"), looks := true }, kinds := [], alts := [], laidByText := true, laidKinds := [.data, .data, .data, .sentinel, .sentinel], laidTests := true, laidLooks := .later }
def PrimChainsCardSaid : Prop := Claim7.holds Tryz.pinned (.plain (OpenSpec.ofChange primChainsSpec)) primChainsCard

/-- THE TIED CARD OF 'tandemlaw12.PrimConverts'. -/
def primConvertsCard : Claim7 := { stood := { row := primConvertsRow, standIns := [], harness := (true, "7bcf4e3a1b02cad2a310991897f675d74e81afef8942b6260ad9de8b81f0e2f2"), looks := true }, kinds := [], alts := [], laidByText := true, laidKinds := [.data, .data, .data, .sentinel, .sentinel], laidTests := true, laidLooks := .later }
def PrimConvertsCardSaid : Prop := Claim7.holds Tryz.pinned (.plain (OpenSpec.ofChange primConvertsSpec)) primConvertsCard

/-- THE TIED CARD OF 'tandemlaw12.PrimParts'. -/
def primPartsCard : Claim7 := { stood := { row := primPartsRow, standIns := [], harness := (true, "7bcf4e3a1b02cad2a310991897f675d74e81afef8942b6260ad9de8b81f0e2f2"), looks := true }, kinds := [], alts := [], laidByText := true, laidKinds := [.data, .data, .data, .sentinel, .sentinel], laidTests := true, laidLooks := .later }
def PrimPartsCardSaid : Prop := Claim7.holds Tryz.pinned (.plain (OpenSpec.ofChange primPartsSpec)) primPartsCard

/-- THE TIED CARD OF 'tandemlaw12.PrimTurns'. -/
def primTurnsCard : Claim7 := { stood := { row := primTurnsRow, standIns := [], harness := (true, "7bcf4e3a1b02cad2a310991897f675d74e81afef8942b6260ad9de8b81f0e2f2"), looks := true }, kinds := [], alts := [], laidByText := true, laidKinds := [.data, .data, .data, .sentinel, .sentinel], laidTests := true, laidLooks := .later }
def PrimTurnsCardSaid : Prop := Claim7.holds Tryz.pinned (.plain (OpenSpec.ofChange primTurnsSpec)) primTurnsCard

/-- THE TIED CARD OF 'tandemlaw12.PrimFinds'. -/
def primFindsCard : Claim7 := { stood := { row := primFindsRow, standIns := [], harness := (true, "7bcf4e3a1b02cad2a310991897f675d74e81afef8942b6260ad9de8b81f0e2f2"), looks := true }, kinds := [], alts := [], laidByText := true, laidKinds := [.data, .data, .data, .sentinel, .sentinel], laidTests := true, laidLooks := .later }
def PrimFindsCardSaid : Prop := Claim7.holds Tryz.pinned (.plain (OpenSpec.ofChange primFindsSpec)) primFindsCard

/-- THE TIED CARD OF 'tandemlaw12.PrimConditions'. -/
def primConditionsCard : Claim7 := { stood := { row := primConditionsRow, standIns := [], harness := (true, "7bcf4e3a1b02cad2a310991897f675d74e81afef8942b6260ad9de8b81f0e2f2"), looks := true }, kinds := [], alts := [], laidByText := true, laidKinds := [.data, .data, .data, .sentinel, .sentinel], laidTests := true, laidLooks := .later }
def PrimConditionsCardSaid : Prop := Claim7.holds Tryz.pinned (.plain (OpenSpec.ofChange primConditionsSpec)) primConditionsCard

/-- THE TIED CARD OF 'tandemlaw12.PrimRoom'. -/
def primRoomCard : Claim7 := { stood := { row := primRoomRow, standIns := [], harness := (true, "7bcf4e3a1b02cad2a310991897f675d74e81afef8942b6260ad9de8b81f0e2f2"), looks := true }, kinds := [], alts := [], laidByText := true, laidKinds := [.data, .data, .data, .sentinel, .sentinel], laidTests := true, laidLooks := .later }
def PrimRoomCardSaid : Prop := Claim7.holds Tryz.pinned (.plain (OpenSpec.ofChange primRoomSpec)) primRoomCard

/-- THE TIED CARD OF 'tandemlaw12.PrimWrites'. -/
def primWritesCard : Claim7 := { stood := { row := primWritesRow, standIns := [], harness := (true, "7bcf4e3a1b02cad2a310991897f675d74e81afef8942b6260ad9de8b81f0e2f2"), looks := true }, kinds := [], alts := [], laidByText := true, laidKinds := [.data, .data, .data, .sentinel, .sentinel], laidTests := true, laidLooks := .later }
def PrimWritesCardSaid : Prop := Claim7.holds Tryz.pinned (.plain (OpenSpec.ofChange primWritesSpec)) primWritesCard

/-- THE SECOND FORM's CARD OF 'tandemlaw12.PrimSums'. -/
def primSumsUptoCard : Claim7 := { stood := { row := primSumsUptoRow, standIns := [], harness := (true, "7bcf4e3a1b02cad2a310991897f675d74e81afef8942b6260ad9de8b81f0e2f2"), looks := true }, kinds := [], alts := [], laidByText := true, laidKinds := [.data, .data, .data, .sentinel, .sentinel], laidTests := true, laidLooks := .later }
def PrimSumsUptoCardSaid : Prop := Claim7.holds Tryz.pinned (.plain (OpenSpec.upto primSumsSpec)) primSumsUptoCard

/-- THE SECOND FORM's CARD OF 'tandemlaw12.PrimChains'. -/
def primChainsUptoCard : Claim7 := { stood := { row := primChainsUptoRow, standIns := [], harness := (true, "7bcf4e3a1b02cad2a310991897f675d74e81afef8942b6260ad9de8b81f0e2f2"), looks := true }, kinds := [], alts := [], laidByText := true, laidKinds := [.data, .data, .data, .sentinel, .sentinel], laidTests := true, laidLooks := .later }
def PrimChainsUptoCardSaid : Prop := Claim7.holds Tryz.pinned (.plain (OpenSpec.upto primChainsSpec)) primChainsUptoCard

/-- THE SECOND FORM's CARD OF 'tandemlaw12.PrimConverts'. -/
def primConvertsUptoCard : Claim7 := { stood := { row := primConvertsUptoRow, standIns := [], harness := (true, "7bcf4e3a1b02cad2a310991897f675d74e81afef8942b6260ad9de8b81f0e2f2"), looks := true }, kinds := [], alts := [], laidByText := true, laidKinds := [.data, .data, .data, .sentinel, .sentinel], laidTests := true, laidLooks := .later }
def PrimConvertsUptoCardSaid : Prop := Claim7.holds Tryz.pinned (.plain (OpenSpec.upto primConvertsSpec)) primConvertsUptoCard

/-- THE SECOND FORM's CARD OF 'tandemlaw12.PrimParts'. -/
def primPartsUptoCard : Claim7 := { stood := { row := primPartsUptoRow, standIns := [], harness := (true, "7bcf4e3a1b02cad2a310991897f675d74e81afef8942b6260ad9de8b81f0e2f2"), looks := true }, kinds := [], alts := [], laidByText := true, laidKinds := [.data, .data, .data, .sentinel, .sentinel], laidTests := true, laidLooks := .later }
def PrimPartsUptoCardSaid : Prop := Claim7.holds Tryz.pinned (.plain (OpenSpec.upto primPartsSpec)) primPartsUptoCard

/-- THE SECOND FORM's CARD OF 'tandemlaw12.PrimTurns'. -/
def primTurnsUptoCard : Claim7 := { stood := { row := primTurnsUptoRow, standIns := [], harness := (true, "7bcf4e3a1b02cad2a310991897f675d74e81afef8942b6260ad9de8b81f0e2f2"), looks := true }, kinds := [], alts := [], laidByText := true, laidKinds := [.data, .data, .data, .sentinel, .sentinel], laidTests := true, laidLooks := .later }
def PrimTurnsUptoCardSaid : Prop := Claim7.holds Tryz.pinned (.plain (OpenSpec.upto primTurnsSpec)) primTurnsUptoCard

/-- THE SECOND FORM's CARD OF 'tandemlaw12.PrimFinds'. -/
def primFindsUptoCard : Claim7 := { stood := { row := primFindsUptoRow, standIns := [], harness := (true, "7bcf4e3a1b02cad2a310991897f675d74e81afef8942b6260ad9de8b81f0e2f2"), looks := true }, kinds := [], alts := [], laidByText := true, laidKinds := [.data, .data, .data, .sentinel, .sentinel], laidTests := true, laidLooks := .later }
def PrimFindsUptoCardSaid : Prop := Claim7.holds Tryz.pinned (.plain (OpenSpec.upto primFindsSpec)) primFindsUptoCard

/-- THE SECOND FORM's CARD OF 'tandemlaw12.PrimConditions'. -/
def primConditionsUptoCard : Claim7 := { stood := { row := primConditionsUptoRow, standIns := [], harness := (true, "7bcf4e3a1b02cad2a310991897f675d74e81afef8942b6260ad9de8b81f0e2f2"), looks := true }, kinds := [], alts := [], laidByText := true, laidKinds := [.data, .data, .data, .sentinel, .sentinel], laidTests := true, laidLooks := .later }
def PrimConditionsUptoCardSaid : Prop := Claim7.holds Tryz.pinned (.plain (OpenSpec.upto primConditionsSpec)) primConditionsUptoCard

/-- THE SECOND FORM's CARD OF 'tandemlaw12.PrimRoom'. -/
def primRoomUptoCard : Claim7 := { stood := { row := primRoomUptoRow, standIns := [], harness := (true, "7bcf4e3a1b02cad2a310991897f675d74e81afef8942b6260ad9de8b81f0e2f2"), looks := true }, kinds := [], alts := [], laidByText := true, laidKinds := [.data, .data, .data, .sentinel, .sentinel], laidTests := true, laidLooks := .later }
def PrimRoomUptoCardSaid : Prop := Claim7.holds Tryz.pinned (.plain (OpenSpec.upto primRoomSpec)) primRoomUptoCard

/-- THE SECOND FORM's CARD OF 'tandemlaw12.PrimWrites'. -/
def primWritesUptoCard : Claim7 := { stood := { row := primWritesUptoRow, standIns := [], harness := (true, "7bcf4e3a1b02cad2a310991897f675d74e81afef8942b6260ad9de8b81f0e2f2"), looks := true }, kinds := [], alts := [], laidByText := true, laidKinds := [.data, .data, .data, .sentinel, .sentinel], laidTests := true, laidLooks := .later }
def PrimWritesUptoCardSaid : Prop := Claim7.holds Tryz.pinned (.plain (OpenSpec.upto primWritesSpec)) primWritesUptoCard
end Rows
end Go.Proofs.YtafignheedbnbaaGreatDoor
