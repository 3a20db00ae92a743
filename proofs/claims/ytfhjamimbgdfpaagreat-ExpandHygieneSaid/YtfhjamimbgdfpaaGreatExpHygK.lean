/- Runs of the law of hygiene, part K; no condition. -/
import Derived.Test.YtfhjamimbgdfpaaGreatExpHyg
namespace Go.Proofs.YtfhjamimbgdfpaaGreat.X.Exp
open Go
set_option maxRecDepth 100000
theorem hran600 : hrun 6 0 0 = true := by decide +kernel
theorem hran601 : hrun 6 0 1 = true := by decide +kernel
theorem hran610 : hrun 6 1 0 = true := by decide +kernel
theorem hran611 : hrun 6 1 1 = true := by decide +kernel
theorem hran620 : hrun 6 2 0 = true := by decide +kernel
theorem hran621 : hrun 6 2 1 = true := by decide +kernel
theorem hran630 : hrun 6 3 0 = true := by decide +kernel
theorem hran631 : hrun 6 3 1 = true := by decide +kernel
theorem hran640 : hrun 6 4 0 = true := by decide +kernel
theorem hran641 : hrun 6 4 1 = true := by decide +kernel
theorem hran680 : hrun 6 8 0 = true := by decide +kernel
theorem hran681 : hrun 6 8 1 = true := by decide +kernel
end Go.Proofs.YtfhjamimbgdfpaaGreat.X.Exp
