/- Runs of the law of hygiene, part H; no condition. -/
import Derived.Test.YtfhjamimbgdfpaaGreatExpHyg
namespace Go.Proofs.YtfhjamimbgdfpaaGreat.X.Exp
open Go
set_option maxRecDepth 100000
theorem hran302 : hrun 3 0 2 = true := by decide +kernel
theorem hran303 : hrun 3 0 3 = true := by decide +kernel
theorem hran312 : hrun 3 1 2 = true := by decide +kernel
theorem hran313 : hrun 3 1 3 = true := by decide +kernel
theorem hran322 : hrun 3 2 2 = true := by decide +kernel
theorem hran323 : hrun 3 2 3 = true := by decide +kernel
theorem hran342 : hrun 3 4 2 = true := by decide +kernel
theorem hran343 : hrun 3 4 3 = true := by decide +kernel
theorem hran362 : hrun 3 6 2 = true := by decide +kernel
theorem hran363 : hrun 3 6 3 = true := by decide +kernel
theorem hran382 : hrun 3 8 2 = true := by decide +kernel
theorem hran383 : hrun 3 8 3 = true := by decide +kernel
end Go.Proofs.YtfhjamimbgdfpaaGreat.X.Exp
