/-
  NARROWER THAN 'FOR EVERY INPUT', by the rows' own cells (each row's printed sentence says how): CheckDepths: loops.
  DERIVED. THE GIVEN ROWS OF THIS SEAT. 3 by the template 'for every input the law returns true; each argument reads behind the call as it read before'; 0 by the template 'total and deterministic' (their statements: YtmlmepbnjlepnaaTotals.lean).
  GIVEN WITH THE SEED: the statements are not yours to turn. If you find one false, say at which input.
  Laid BY PROGRAM, IN A SANDBOX (cutbox-rows.mjs): the forced cells as the released guide's own fill.sh prints them over the translation 927cd754ff162985… (all of the seat's roots in one cut). By AI agents, Wed Nov 11 2026. No macro, syntax, notation, axiom, sorry.
-/
import Derived.Test.YtmlmepbnjlepnaaChecked
import GoSem.Claim
import GoSem.ClaimJoined
import GoSem.ClaimMapViews
import Derived.JoinedTies
import Derived.KernelRfl
namespace Go.Proofs.Ytmlmepbnjlepnaa
/- THE CELL 'sum', in the pinned program and in every row, IS THE sha256 OF THE DUMP (.gsa) THAT YtmlmepbnjlepnaaProg.lean LOADS. Nothing in Lean hashes anything: it is a label: what it is worth is what the hold of that sum in a sandbox is worth. -/
noncomputable def Try.pinned : Pinned := { name := "ytmlmepbnjlepnaa", sum := "927cd754ff1629853496e2b4f41ba0828d3bd0625b5638b071510f53d5696575", checked := Try.checked }
namespace Rows
def none {H : Type} : Left H := { results := [], args := [] }

/-- 'tandemlaw11.CheckBranches': WHATEVER THE INPUT: true; the input reads as it did. -/
def checkBranchesSpec : ChangeSpec := { name := "checkBranches", fn := fun _ => fun
  | [d1, d2] => { results := [.lit (.bool true)], args := [d1, d2] }
  | _ => none }
def checkBranchesRow : OpenClaim := { program := "ytmlmepbnjlepnaa", sum := "927cd754ff1629853496e2b4f41ba0828d3bd0625b5638b071510f53d5696575", func := "tandem/tandemlaw11.CheckBranches", spec := "checkBranches", apart := false }
def CheckBranchesSaid : Prop := checkBranchesRow.holds Try.pinned (OpenSpec.ofChange checkBranchesSpec)

/-- ITS FALSE NEIGHBOUR: 'it returns false'. Refute it at one input. -/
def checkBranchesWrong : ChangeSpec := { name := "checkBranches", fn := fun _ => fun
  | [d1, d2] => { results := [.lit (.bool false)], args := [d1, d2] }
  | _ => none }
def CheckBranchesWrongFalsely : Prop := checkBranchesRow.holds Try.pinned (OpenSpec.ofChange checkBranchesWrong)

/-- 'tandemlaw11.CheckDepths': WHATEVER THE INPUT: true; the input reads as it did. -/
def checkDepthsSpec : ChangeSpec := { name := "checkDepths", fn := fun _ => fun
  | [d1, d2] => { results := [.lit (.bool true)], args := [d1, d2] }
  | _ => none }
def checkDepthsRow : OpenClaim := { program := "ytmlmepbnjlepnaa", sum := "927cd754ff1629853496e2b4f41ba0828d3bd0625b5638b071510f53d5696575", func := "tandem/tandemlaw11.CheckDepths", spec := "checkDepths", recurses := true, loops := true, apart := false }
def CheckDepthsSaid : Prop := checkDepthsRow.holds Try.pinned (OpenSpec.ofChange checkDepthsSpec)

/-- ITS FALSE NEIGHBOUR: 'it returns false'. Refute it at one input. -/
def checkDepthsWrong : ChangeSpec := { name := "checkDepths", fn := fun _ => fun
  | [d1, d2] => { results := [.lit (.bool false)], args := [d1, d2] }
  | _ => none }
def CheckDepthsWrongFalsely : Prop := checkDepthsRow.holds Try.pinned (OpenSpec.ofChange checkDepthsWrong)

/-- 'tandemlaw11.CheckStacks': WHATEVER THE INPUT: true; the input reads as it did. -/
def checkStacksSpec : ChangeSpec := { name := "checkStacks", fn := fun _ => fun
  | [d1, d2] => { results := [.lit (.bool true)], args := [d1, d2] }
  | _ => none }
def checkStacksRow : OpenClaim := { program := "ytmlmepbnjlepnaa", sum := "927cd754ff1629853496e2b4f41ba0828d3bd0625b5638b071510f53d5696575", func := "tandem/tandemlaw11.CheckStacks", spec := "checkStacks", apart := false }
def CheckStacksSaid : Prop := checkStacksRow.holds Try.pinned (OpenSpec.ofChange checkStacksSpec)

/-- ITS FALSE NEIGHBOUR: 'it returns false'. Refute it at one input. -/
def checkStacksWrong : ChangeSpec := { name := "checkStacks", fn := fun _ => fun
  | [d1, d2] => { results := [.lit (.bool false)], args := [d1, d2] }
  | _ => none }
def CheckStacksWrongFalsely : Prop := checkStacksRow.holds Try.pinned (OpenSpec.ofChange checkStacksWrong)

/- THE SECOND FORM. 'bulk': how many values and letters a reading holds, each counted each time it is reached (what is shared counts as often as it is met; a slice's spare places count too). A statement '..UptoSaid' is the law's where the arguments, and the package variables that the reading takes, are together of bulk at most 1048576: NARROWER than '..Said'. Prove '..Said' where nothing that the law and all that it calls make is longer than what came in: it says more and counts as full. Else prove '..UptoSaid'. A law counts once. -/
mutual
def uptoBulk {H : Type} : DataW H → Nat
  | .lit (.string bytes) => bytes.length + 1
  | .lit _ => 1
  | .nil => 1
  | .ptr d => uptoBulk d + 1
  | .slice elems spare => uptoBulkAll elems + uptoBulkAll spare + 1
  | .agg parts => uptoBulkAll parts + 1
  | .iface _ d => uptoBulk d + 1
  | .map entries => uptoBulkEntries entries + 1
  | .held _ => 1
def uptoBulkAll {H : Type} : List (DataW H) → Nat
  | [] => 0
  | d :: r => uptoBulk d + uptoBulkAll r
def uptoBulkEntries {H : Type} : List (Lit × DataW H) → Nat
  | [] => 0
  | x :: r => uptoBulkEntry x + uptoBulkEntries r
def uptoBulkEntry {H : Type} : Lit × DataW H → Nat
  | (.string bytes, d) => bytes.length + uptoBulk d + 1
  | (_, d) => uptoBulk d + 1
 end
def uptoSmall : (H : Type) → List (DataW H) → Bool := fun _ ds => decide (uptoBulkAll ds ≤ 1048576)
def OpenSpec.upto (s : _root_.Go.ChangeSpec) : _root_.Go.OpenSpec := { _root_.Go.OpenSpec.ofChange s with cond := some uptoSmall }

/-- 'tandemlaw11.CheckBranches', WHERE WHAT IT READS IS OF BULK AT MOST 1048576: true; the input reads as it did. -/
def checkBranchesUptoRow : OpenClaim := { program := "ytmlmepbnjlepnaa", sum := "927cd754ff1629853496e2b4f41ba0828d3bd0625b5638b071510f53d5696575", func := "tandem/tandemlaw11.CheckBranches", spec := "checkBranches", apart := false, narrowed := true }
def CheckBranchesUptoSaid : Prop := checkBranchesUptoRow.holds Try.pinned (OpenSpec.upto checkBranchesSpec)

/-- 'tandemlaw11.CheckDepths', WHERE WHAT IT READS IS OF BULK AT MOST 1048576: true; the input reads as it did. -/
def checkDepthsUptoRow : OpenClaim := { program := "ytmlmepbnjlepnaa", sum := "927cd754ff1629853496e2b4f41ba0828d3bd0625b5638b071510f53d5696575", func := "tandem/tandemlaw11.CheckDepths", spec := "checkDepths", recurses := true, loops := true, apart := false, narrowed := true }
def CheckDepthsUptoSaid : Prop := checkDepthsUptoRow.holds Try.pinned (OpenSpec.upto checkDepthsSpec)

/-- 'tandemlaw11.CheckStacks', WHERE WHAT IT READS IS OF BULK AT MOST 1048576: true; the input reads as it did. -/
def checkStacksUptoRow : OpenClaim := { program := "ytmlmepbnjlepnaa", sum := "927cd754ff1629853496e2b4f41ba0828d3bd0625b5638b071510f53d5696575", func := "tandem/tandemlaw11.CheckStacks", spec := "checkStacks", apart := false, narrowed := true }
def CheckStacksUptoSaid : Prop := checkStacksUptoRow.holds Try.pinned (OpenSpec.upto checkStacksSpec)

end Rows
end Go.Proofs.Ytmlmepbnjlepnaa
