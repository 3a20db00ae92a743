/-
  No cell of these rows narrows 'for every input' (looked for: loops, veiled, ifaces, maps, wideKeys, modest, calm, conditions, laid).
  DERIVED. THE GIVEN ROWS OF THIS SEAT. 4 by the template 'for every input the law returns true; each argument reads behind the call as it read before'; 0 by the template 'total and deterministic' (their statements: YtmgafcbhoamkkaaTotals.lean).
  GIVEN WITH THE SEED: the statements are not yours to turn. If you find one false, say at which input.
  Laid BY PROGRAM, IN A SANDBOX (cutbox-rows.mjs): the forced cells as the released guide's own fill.sh prints them over the translation d54ab5a70c6658b9… (all of the seat's roots in one cut). By AI agents, Wed Nov 11 2026. No macro, syntax, notation, axiom, sorry.
-/
import Derived.Test.YtmgafcbhoamkkaaChecked
import GoSem.Claim
import GoSem.ClaimJoined
import GoSem.ClaimMapViews
import Derived.JoinedTies
import Derived.KernelRfl
namespace Go.Proofs.Ytmgafcbhoamkkaa
/- THE CELL 'sum', in the pinned program and in every row, IS THE sha256 OF THE DUMP (.gsa) THAT YtmgafcbhoamkkaaProg.lean LOADS. Nothing in Lean hashes anything: it is a label: what it is worth is what the hold of that sum in a sandbox is worth. -/
noncomputable def Try.pinned : Pinned := { name := "ytmgafcbhoamkkaa", sum := "d54ab5a70c6658b9bb5159affdbff58ad235a205f3911ba1b7fb04f7d42f2b1f", checked := Try.checked }
namespace Rows
def none {H : Type} : Left H := { results := [], args := [] }

/-- 'tandemlaw14.FeedJoins': WHATEVER THE INPUT: true; the input reads as it did. -/
def feedJoinsSpec : ChangeSpec := { name := "feedJoins", fn := fun _ => fun
  | [d1, d2, d3] => { results := [.lit (.bool true)], args := [d1, d2, d3] }
  | _ => none }
def feedJoinsRow : OpenClaim := { program := "ytmgafcbhoamkkaa", sum := "d54ab5a70c6658b9bb5159affdbff58ad235a205f3911ba1b7fb04f7d42f2b1f", func := "tandem/tandemlaw14.FeedJoins", spec := "feedJoins", plainKeys := false, apart := false }
def FeedJoinsSaid : Prop := feedJoinsRow.holds Try.pinned (OpenSpec.ofChange feedJoinsSpec)

/-- ITS FALSE NEIGHBOUR: 'it returns false'. Refute it at one input. -/
def feedJoinsWrong : ChangeSpec := { name := "feedJoins", fn := fun _ => fun
  | [d1, d2, d3] => { results := [.lit (.bool false)], args := [d1, d2, d3] }
  | _ => none }
def FeedJoinsWrongFalsely : Prop := feedJoinsRow.holds Try.pinned (OpenSpec.ofChange feedJoinsWrong)

/-- 'tandemlaw14.FeedSeen': WHATEVER THE INPUT: true; the input reads as it did. -/
def feedSeenSpec : ChangeSpec := { name := "feedSeen", fn := fun _ => fun
  | [d1, d2] => { results := [.lit (.bool true)], args := [d1, d2] }
  | _ => none }
def feedSeenRow : OpenClaim := { program := "ytmgafcbhoamkkaa", sum := "d54ab5a70c6658b9bb5159affdbff58ad235a205f3911ba1b7fb04f7d42f2b1f", func := "tandem/tandemlaw14.FeedSeen", spec := "feedSeen", unfollowed := true, recurses := true, plainKeys := false, apart := false }
def FeedSeenSaid : Prop := feedSeenRow.holds Try.pinned (OpenSpec.ofChange feedSeenSpec)

/-- ITS FALSE NEIGHBOUR: 'it returns false'. Refute it at one input. -/
def feedSeenWrong : ChangeSpec := { name := "feedSeen", fn := fun _ => fun
  | [d1, d2] => { results := [.lit (.bool false)], args := [d1, d2] }
  | _ => none }
def FeedSeenWrongFalsely : Prop := feedSeenRow.holds Try.pinned (OpenSpec.ofChange feedSeenWrong)

/-- 'tandemlaw14.FeedTables': WHATEVER THE INPUT: true; the input reads as it did. -/
def feedTablesSpec : ChangeSpec := { name := "feedTables", fn := fun _ => fun
  | [d1, d2] => { results := [.lit (.bool true)], args := [d1, d2] }
  | _ => none }
def feedTablesRow : OpenClaim := { program := "ytmgafcbhoamkkaa", sum := "d54ab5a70c6658b9bb5159affdbff58ad235a205f3911ba1b7fb04f7d42f2b1f", func := "tandem/tandemlaw14.FeedTables", spec := "feedTables", unfollowed := true, recurses := true, plainKeys := false, apart := false }
def FeedTablesSaid : Prop := feedTablesRow.holds Try.pinned (OpenSpec.ofChange feedTablesSpec)

/-- ITS FALSE NEIGHBOUR: 'it returns false'. Refute it at one input. -/
def feedTablesWrong : ChangeSpec := { name := "feedTables", fn := fun _ => fun
  | [d1, d2] => { results := [.lit (.bool false)], args := [d1, d2] }
  | _ => none }
def FeedTablesWrongFalsely : Prop := feedTablesRow.holds Try.pinned (OpenSpec.ofChange feedTablesWrong)

/-- 'tandemlaw14.FeedPlays': WHATEVER THE INPUT: true; the input reads as it did. -/
def feedPlaysSpec : ChangeSpec := { name := "feedPlays", fn := fun _ => fun
  | [d] => { results := [.lit (.bool true)], args := [d] }
  | _ => none }
def feedPlaysRow : OpenClaim := { program := "ytmgafcbhoamkkaa", sum := "d54ab5a70c6658b9bb5159affdbff58ad235a205f3911ba1b7fb04f7d42f2b1f", func := "tandem/tandemlaw14.FeedPlays", spec := "feedPlays", unfollowed := true, recurses := true, plainKeys := false, apart := false }
def FeedPlaysSaid : Prop := feedPlaysRow.holds Try.pinned (OpenSpec.ofChange feedPlaysSpec)

/-- ITS FALSE NEIGHBOUR: 'it returns false'. Refute it at one input. -/
def feedPlaysWrong : ChangeSpec := { name := "feedPlays", fn := fun _ => fun
  | [d] => { results := [.lit (.bool false)], args := [d] }
  | _ => none }
def FeedPlaysWrongFalsely : Prop := feedPlaysRow.holds Try.pinned (OpenSpec.ofChange feedPlaysWrong)

/- THE SECOND FORM. 'bulk': how many values and letters a reading holds, each counted each time it is reached (what is shared counts as often as it is met; a slice's spare places count too). A statement '..UptoSaid' is the law's where the arguments, and the package variables that the reading takes, are together of bulk at most 1048576: NARROWER than '..Said'. Prove '..Said' where nothing that the law and all that it calls make is longer than what came in: it says more and counts as full. Else prove '..UptoSaid'. A law counts once. -/
mutual
def uptoBulk {H : Type} : DataW H → Nat
  | .lit (.string bytes) => bytes.length + 1
  | .lit _ => 1
  | .nil => 1
  | .ptr d => uptoBulk d + 1
  | .slice elems spare => uptoBulkAll elems + uptoBulkAll spare + 1
  | .agg parts => uptoBulkAll parts + 1
  | .iface _ d => uptoBulk d + 1
  | .map entries => uptoBulkEntries entries + 1
  | .held _ => 1
def uptoBulkAll {H : Type} : List (DataW H) → Nat
  | [] => 0
  | d :: r => uptoBulk d + uptoBulkAll r
def uptoBulkEntries {H : Type} : List (Lit × DataW H) → Nat
  | [] => 0
  | x :: r => uptoBulkEntry x + uptoBulkEntries r
def uptoBulkEntry {H : Type} : Lit × DataW H → Nat
  | (.string bytes, d) => bytes.length + uptoBulk d + 1
  | (_, d) => uptoBulk d + 1
 end
def uptoSmall : (H : Type) → List (DataW H) → Bool := fun _ ds => decide (uptoBulkAll ds ≤ 1048576)
def OpenSpec.upto (s : _root_.Go.ChangeSpec) : _root_.Go.OpenSpec := { _root_.Go.OpenSpec.ofChange s with cond := some uptoSmall }

/-- 'tandemlaw14.FeedJoins', WHERE WHAT IT READS IS OF BULK AT MOST 1048576: true; the input reads as it did. -/
def feedJoinsUptoRow : OpenClaim := { program := "ytmgafcbhoamkkaa", sum := "d54ab5a70c6658b9bb5159affdbff58ad235a205f3911ba1b7fb04f7d42f2b1f", func := "tandem/tandemlaw14.FeedJoins", spec := "feedJoins", plainKeys := false, apart := false, narrowed := true }
def FeedJoinsUptoSaid : Prop := feedJoinsUptoRow.holds Try.pinned (OpenSpec.upto feedJoinsSpec)

/-- 'tandemlaw14.FeedSeen', WHERE WHAT IT READS IS OF BULK AT MOST 1048576: true; the input reads as it did. -/
def feedSeenUptoRow : OpenClaim := { program := "ytmgafcbhoamkkaa", sum := "d54ab5a70c6658b9bb5159affdbff58ad235a205f3911ba1b7fb04f7d42f2b1f", func := "tandem/tandemlaw14.FeedSeen", spec := "feedSeen", unfollowed := true, recurses := true, plainKeys := false, apart := false, narrowed := true }
def FeedSeenUptoSaid : Prop := feedSeenUptoRow.holds Try.pinned (OpenSpec.upto feedSeenSpec)

/-- 'tandemlaw14.FeedTables', WHERE WHAT IT READS IS OF BULK AT MOST 1048576: true; the input reads as it did. -/
def feedTablesUptoRow : OpenClaim := { program := "ytmgafcbhoamkkaa", sum := "d54ab5a70c6658b9bb5159affdbff58ad235a205f3911ba1b7fb04f7d42f2b1f", func := "tandem/tandemlaw14.FeedTables", spec := "feedTables", unfollowed := true, recurses := true, plainKeys := false, apart := false, narrowed := true }
def FeedTablesUptoSaid : Prop := feedTablesUptoRow.holds Try.pinned (OpenSpec.upto feedTablesSpec)

/-- 'tandemlaw14.FeedPlays', WHERE WHAT IT READS IS OF BULK AT MOST 1048576: true; the input reads as it did. -/
def feedPlaysUptoRow : OpenClaim := { program := "ytmgafcbhoamkkaa", sum := "d54ab5a70c6658b9bb5159affdbff58ad235a205f3911ba1b7fb04f7d42f2b1f", func := "tandem/tandemlaw14.FeedPlays", spec := "feedPlays", unfollowed := true, recurses := true, plainKeys := false, apart := false, narrowed := true }
def FeedPlaysUptoSaid : Prop := feedPlaysUptoRow.holds Try.pinned (OpenSpec.upto feedPlaysSpec)

end Rows
end Go.Proofs.Ytmgafcbhoamkkaa
