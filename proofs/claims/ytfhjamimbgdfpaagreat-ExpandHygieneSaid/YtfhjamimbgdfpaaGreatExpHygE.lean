/- Runs of the law of hygiene, part E; no condition. -/
import Derived.Test.YtfhjamimbgdfpaaGreatExpHyg
namespace Go.Proofs.YtfhjamimbgdfpaaGreat.X.Exp
open Go
set_option maxRecDepth 100000
theorem hran200 : hrun 2 0 0 = true := by decide +kernel
theorem hran201 : hrun 2 0 1 = true := by decide +kernel
theorem hran210 : hrun 2 1 0 = true := by decide +kernel
theorem hran211 : hrun 2 1 1 = true := by decide +kernel
theorem hran230 : hrun 2 3 0 = true := by decide +kernel
theorem hran231 : hrun 2 3 1 = true := by decide +kernel
theorem hran240 : hrun 2 4 0 = true := by decide +kernel
theorem hran241 : hrun 2 4 1 = true := by decide +kernel
theorem hran260 : hrun 2 6 0 = true := by decide +kernel
theorem hran261 : hrun 2 6 1 = true := by decide +kernel
theorem hran280 : hrun 2 8 0 = true := by decide +kernel
theorem hran281 : hrun 2 8 1 = true := by decide +kernel
end Go.Proofs.YtfhjamimbgdfpaaGreat.X.Exp
