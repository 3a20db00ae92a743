/- Runs of the law of hygiene, part D; no condition. -/
import Derived.Test.YtfhjamimbgdfpaaGreatExpHyg
namespace Go.Proofs.YtfhjamimbgdfpaaGreat.X.Exp
open Go
set_option maxRecDepth 100000
theorem hran102 : hrun 1 0 2 = true := by decide +kernel
theorem hran103 : hrun 1 0 3 = true := by decide +kernel
theorem hran122 : hrun 1 2 2 = true := by decide +kernel
theorem hran123 : hrun 1 2 3 = true := by decide +kernel
theorem hran132 : hrun 1 3 2 = true := by decide +kernel
theorem hran133 : hrun 1 3 3 = true := by decide +kernel
theorem hran142 : hrun 1 4 2 = true := by decide +kernel
theorem hran143 : hrun 1 4 3 = true := by decide +kernel
theorem hran162 : hrun 1 6 2 = true := by decide +kernel
theorem hran163 : hrun 1 6 3 = true := by decide +kernel
theorem hran182 : hrun 1 8 2 = true := by decide +kernel
theorem hran183 : hrun 1 8 3 = true := by decide +kernel
end Go.Proofs.YtfhjamimbgdfpaaGreat.X.Exp
