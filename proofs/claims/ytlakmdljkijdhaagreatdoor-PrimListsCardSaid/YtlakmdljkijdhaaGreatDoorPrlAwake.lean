/- The run of the document's example: it answers true; no condition. -/
import Derived.Test.YtlakmdljkijdhaaGreatDoorPrlBase
namespace Go.Proofs.YtlakmdljkijdhaaGreatDoor.X.Prl
open Go
set_option maxRecDepth 100000
theorem ran_awake : answer (env []) 1000000 (P.of 8) [] = true := by decide +kernel
theorem awake_rule {l : List Value} (hl : ∀ v ∈ l, ∃ k n, v = .int k n) : RuleOk Tryz.prog (sg l) 8 [] (.bool true) := run_rule hl no_rules _ _ rfl ran_awake
end Go.Proofs.YtlakmdljkijdhaaGreatDoor.X.Prl
