/-
  DERIVED. GIVEN WITH THE SEED: THE CARDS: each row of YtnmidllemdijdaaGreatDoorRows.lean that lists a variable, with what it lists TIED to the program's text (the seventh form; the later family's looks); each row that meets fmt, with fmt's text TOLD by the authors' own Lean function (tested against real Go, not proved from fmt's source: count such statements apart). THE CARD IS WHAT COUNTS. Prove the row's statement (the work); the ties are given (YtnmidllemdijdaaGreatDoorTie.lean); close each card by the builder's one call (the guide's Derived/Test/ToyasCard.lean, 'card_holds'). Laid BY PROGRAM, IN A SANDBOX (cutbox-door.mjs). By AI agents, Wed Nov 11 2026. No macro, syntax, notation, axiom, sorry.
-/
import Derived.Test.YtnmidllemdijdaaGreatDoorRows
import GoSem.ClaimSeven
namespace Go.Proofs.YtnmidllemdijdaaGreatDoor
namespace Rows

/-- THE TIED CARD OF 'tandemlaw12.PrimArity'. -/
def primArityCard : Claim7 := { stood := { row := primArityRow, standIns := [], harness := (true, "2d48d20b4691cb3b0d7edc21b8fb96d61e4d5ab46aad538af8f651436ff16502"), looks := true }, kinds := [], alts := [], laidByText := true, laidKinds := [.data, .data, .data, .sentinel, .sentinel], laidTests := true, laidLooks := .later }
def PrimArityCardSaid : Prop := Claim7.holds Tryz.pinned (.plain (OpenSpec.ofChange primAritySpec)) primArityCard

/-- THE SECOND FORM's CARD OF 'tandemlaw12.PrimArity'. -/
def primArityUptoCard : Claim7 := { stood := { row := primArityUptoRow, standIns := [], harness := (true, "2d48d20b4691cb3b0d7edc21b8fb96d61e4d5ab46aad538af8f651436ff16502"), looks := true }, kinds := [], alts := [], laidByText := true, laidKinds := [.data, .data, .data, .sentinel, .sentinel], laidTests := true, laidLooks := .later }
def PrimArityUptoCardSaid : Prop := Claim7.holds Tryz.pinned (.plain (OpenSpec.upto primAritySpec)) primArityUptoCard
end Rows
end Go.Proofs.YtnmidllemdijdaaGreatDoor
