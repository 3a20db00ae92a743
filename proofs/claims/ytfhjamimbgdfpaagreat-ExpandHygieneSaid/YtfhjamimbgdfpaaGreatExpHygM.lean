/- Runs of the law of hygiene, part M; no condition. -/
import Derived.Test.YtfhjamimbgdfpaaGreatExpHyg
namespace Go.Proofs.YtfhjamimbgdfpaaGreat.X.Exp
open Go
set_option maxRecDepth 100000
theorem hran800 : hrun 8 0 0 = true := by decide +kernel
theorem hran801 : hrun 8 0 1 = true := by decide +kernel
theorem hran810 : hrun 8 1 0 = true := by decide +kernel
theorem hran811 : hrun 8 1 1 = true := by decide +kernel
theorem hran820 : hrun 8 2 0 = true := by decide +kernel
theorem hran821 : hrun 8 2 1 = true := by decide +kernel
theorem hran830 : hrun 8 3 0 = true := by decide +kernel
theorem hran831 : hrun 8 3 1 = true := by decide +kernel
theorem hran840 : hrun 8 4 0 = true := by decide +kernel
theorem hran841 : hrun 8 4 1 = true := by decide +kernel
theorem hran860 : hrun 8 6 0 = true := by decide +kernel
theorem hran861 : hrun 8 6 1 = true := by decide +kernel
end Go.Proofs.YtfhjamimbgdfpaaGreat.X.Exp
