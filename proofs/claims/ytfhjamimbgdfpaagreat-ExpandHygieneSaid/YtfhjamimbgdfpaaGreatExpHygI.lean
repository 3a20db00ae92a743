/- Runs of the law of hygiene, part I; no condition. -/
import Derived.Test.YtfhjamimbgdfpaaGreatExpHyg
namespace Go.Proofs.YtfhjamimbgdfpaaGreat.X.Exp
open Go
set_option maxRecDepth 100000
theorem hran400 : hrun 4 0 0 = true := by decide +kernel
theorem hran401 : hrun 4 0 1 = true := by decide +kernel
theorem hran410 : hrun 4 1 0 = true := by decide +kernel
theorem hran411 : hrun 4 1 1 = true := by decide +kernel
theorem hran420 : hrun 4 2 0 = true := by decide +kernel
theorem hran421 : hrun 4 2 1 = true := by decide +kernel
theorem hran430 : hrun 4 3 0 = true := by decide +kernel
theorem hran431 : hrun 4 3 1 = true := by decide +kernel
theorem hran460 : hrun 4 6 0 = true := by decide +kernel
theorem hran461 : hrun 4 6 1 = true := by decide +kernel
theorem hran480 : hrun 4 8 0 = true := by decide +kernel
theorem hran481 : hrun 4 8 1 = true := by decide +kernel
end Go.Proofs.YtfhjamimbgdfpaaGreat.X.Exp
