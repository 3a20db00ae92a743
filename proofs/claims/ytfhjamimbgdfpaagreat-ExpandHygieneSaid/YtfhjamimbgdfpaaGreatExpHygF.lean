/- Runs of the law of hygiene, part F; no condition. -/
import Derived.Test.YtfhjamimbgdfpaaGreatExpHyg
namespace Go.Proofs.YtfhjamimbgdfpaaGreat.X.Exp
open Go
set_option maxRecDepth 100000
theorem hran202 : hrun 2 0 2 = true := by decide +kernel
theorem hran203 : hrun 2 0 3 = true := by decide +kernel
theorem hran212 : hrun 2 1 2 = true := by decide +kernel
theorem hran213 : hrun 2 1 3 = true := by decide +kernel
theorem hran232 : hrun 2 3 2 = true := by decide +kernel
theorem hran233 : hrun 2 3 3 = true := by decide +kernel
theorem hran242 : hrun 2 4 2 = true := by decide +kernel
theorem hran243 : hrun 2 4 3 = true := by decide +kernel
theorem hran262 : hrun 2 6 2 = true := by decide +kernel
theorem hran263 : hrun 2 6 3 = true := by decide +kernel
theorem hran282 : hrun 2 8 2 = true := by decide +kernel
theorem hran283 : hrun 2 8 3 = true := by decide +kernel
end Go.Proofs.YtfhjamimbgdfpaaGreat.X.Exp
