/- Runs of the law of hygiene, part J; no condition. -/
import Derived.Test.YtfhjamimbgdfpaaGreatExpHyg
namespace Go.Proofs.YtfhjamimbgdfpaaGreat.X.Exp
open Go
set_option maxRecDepth 100000
theorem hran402 : hrun 4 0 2 = true := by decide +kernel
theorem hran403 : hrun 4 0 3 = true := by decide +kernel
theorem hran412 : hrun 4 1 2 = true := by decide +kernel
theorem hran413 : hrun 4 1 3 = true := by decide +kernel
theorem hran422 : hrun 4 2 2 = true := by decide +kernel
theorem hran423 : hrun 4 2 3 = true := by decide +kernel
theorem hran432 : hrun 4 3 2 = true := by decide +kernel
theorem hran433 : hrun 4 3 3 = true := by decide +kernel
theorem hran462 : hrun 4 6 2 = true := by decide +kernel
theorem hran463 : hrun 4 6 3 = true := by decide +kernel
theorem hran482 : hrun 4 8 2 = true := by decide +kernel
theorem hran483 : hrun 4 8 3 = true := by decide +kernel
end Go.Proofs.YtfhjamimbgdfpaaGreat.X.Exp
