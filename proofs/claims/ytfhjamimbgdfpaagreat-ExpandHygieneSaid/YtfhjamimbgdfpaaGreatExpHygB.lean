/- Runs of the law of hygiene, part B; no condition. -/
import Derived.Test.YtfhjamimbgdfpaaGreatExpHyg
namespace Go.Proofs.YtfhjamimbgdfpaaGreat.X.Exp
open Go
set_option maxRecDepth 100000
theorem hran012 : hrun 0 1 2 = true := by decide +kernel
theorem hran013 : hrun 0 1 3 = true := by decide +kernel
theorem hran022 : hrun 0 2 2 = true := by decide +kernel
theorem hran023 : hrun 0 2 3 = true := by decide +kernel
theorem hran032 : hrun 0 3 2 = true := by decide +kernel
theorem hran033 : hrun 0 3 3 = true := by decide +kernel
theorem hran042 : hrun 0 4 2 = true := by decide +kernel
theorem hran043 : hrun 0 4 3 = true := by decide +kernel
theorem hran062 : hrun 0 6 2 = true := by decide +kernel
theorem hran063 : hrun 0 6 3 = true := by decide +kernel
theorem hran082 : hrun 0 8 2 = true := by decide +kernel
theorem hran083 : hrun 0 8 3 = true := by decide +kernel
end Go.Proofs.YtfhjamimbgdfpaaGreat.X.Exp
