/-
  DERIVED. GIVEN WITH THE SEED: THE CARDS: each row of YtlakmdljkijdhaaGreatDoorRows.lean that lists a variable, with what it lists TIED to the program's text (the seventh form; the later family's looks); each row that meets fmt, with fmt's text TOLD by the authors' own Lean function (tested against real Go, not proved from fmt's source: count such statements apart). THE CARD IS WHAT COUNTS. Prove the row's statement (the work); the ties are given (YtlakmdljkijdhaaGreatDoorTie.lean); close each card by the builder's one call (the guide's Derived/Test/ToyasCard.lean, 'card_holds'). Laid BY PROGRAM, IN A SANDBOX (cutbox-door.mjs). By AI agents, Wed Nov 11 2026. No macro, syntax, notation, axiom, sorry.
-/
import Derived.Test.YtlakmdljkijdhaaGreatDoorRows
import GoSem.ClaimSeven
namespace Go.Proofs.YtlakmdljkijdhaaGreatDoor
namespace Rows

/-- THE TIED CARD OF 'tandemlaw12.PrimLists'. -/
def primListsCard : Claim7 := { stood := { row := primListsRow, standIns := [], harness := (true, "c559226d27e455d065ffbdaf979ee8867afbdf2510326885bf782d1711fac300"), looks := true }, kinds := [], alts := [], laidByText := true, laidKinds := [.data, .data, .data, .sentinel, .sentinel], laidTests := true, laidLooks := .later }
def PrimListsCardSaid : Prop := Claim7.holds Tryz.pinned (.plain (OpenSpec.ofChange primListsSpec)) primListsCard

/-- THE SECOND FORM's CARD OF 'tandemlaw12.PrimLists'. -/
def primListsUptoCard : Claim7 := { stood := { row := primListsUptoRow, standIns := [], harness := (true, "c559226d27e455d065ffbdaf979ee8867afbdf2510326885bf782d1711fac300"), looks := true }, kinds := [], alts := [], laidByText := true, laidKinds := [.data, .data, .data, .sentinel, .sentinel], laidTests := true, laidLooks := .later }
def PrimListsUptoCardSaid : Prop := Claim7.holds Tryz.pinned (.plain (OpenSpec.upto primListsSpec)) primListsUptoCard
end Rows
end Go.Proofs.YtlakmdljkijdhaaGreatDoor
