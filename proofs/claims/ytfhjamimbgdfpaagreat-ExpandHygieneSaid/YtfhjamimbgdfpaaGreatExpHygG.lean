/- Runs of the law of hygiene, part G; no condition. -/
import Derived.Test.YtfhjamimbgdfpaaGreatExpHyg
namespace Go.Proofs.YtfhjamimbgdfpaaGreat.X.Exp
open Go
set_option maxRecDepth 100000
theorem hran300 : hrun 3 0 0 = true := by decide +kernel
theorem hran301 : hrun 3 0 1 = true := by decide +kernel
theorem hran310 : hrun 3 1 0 = true := by decide +kernel
theorem hran311 : hrun 3 1 1 = true := by decide +kernel
theorem hran320 : hrun 3 2 0 = true := by decide +kernel
theorem hran321 : hrun 3 2 1 = true := by decide +kernel
theorem hran340 : hrun 3 4 0 = true := by decide +kernel
theorem hran341 : hrun 3 4 1 = true := by decide +kernel
theorem hran360 : hrun 3 6 0 = true := by decide +kernel
theorem hran361 : hrun 3 6 1 = true := by decide +kernel
theorem hran380 : hrun 3 8 0 = true := by decide +kernel
theorem hran381 : hrun 3 8 1 = true := by decide +kernel
end Go.Proofs.YtfhjamimbgdfpaaGreat.X.Exp
