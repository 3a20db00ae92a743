/- Runs of the law of hygiene, part C; no condition. -/
import Derived.Test.YtfhjamimbgdfpaaGreatExpHyg
namespace Go.Proofs.YtfhjamimbgdfpaaGreat.X.Exp
open Go
set_option maxRecDepth 100000
theorem hran100 : hrun 1 0 0 = true := by decide +kernel
theorem hran101 : hrun 1 0 1 = true := by decide +kernel
theorem hran120 : hrun 1 2 0 = true := by decide +kernel
theorem hran121 : hrun 1 2 1 = true := by decide +kernel
theorem hran130 : hrun 1 3 0 = true := by decide +kernel
theorem hran131 : hrun 1 3 1 = true := by decide +kernel
theorem hran140 : hrun 1 4 0 = true := by decide +kernel
theorem hran141 : hrun 1 4 1 = true := by decide +kernel
theorem hran160 : hrun 1 6 0 = true := by decide +kernel
theorem hran161 : hrun 1 6 1 = true := by decide +kernel
theorem hran180 : hrun 1 8 0 = true := by decide +kernel
theorem hran181 : hrun 1 8 1 = true := by decide +kernel
end Go.Proofs.YtfhjamimbgdfpaaGreat.X.Exp
