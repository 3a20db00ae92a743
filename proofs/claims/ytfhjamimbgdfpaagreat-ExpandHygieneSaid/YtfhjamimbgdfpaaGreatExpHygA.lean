/- Runs of the law of hygiene, part A; no condition. -/
import Derived.Test.YtfhjamimbgdfpaaGreatExpHyg
namespace Go.Proofs.YtfhjamimbgdfpaaGreat.X.Exp
open Go
set_option maxRecDepth 100000
theorem hran010 : hrun 0 1 0 = true := by decide +kernel
theorem hran011 : hrun 0 1 1 = true := by decide +kernel
theorem hran020 : hrun 0 2 0 = true := by decide +kernel
theorem hran021 : hrun 0 2 1 = true := by decide +kernel
theorem hran030 : hrun 0 3 0 = true := by decide +kernel
theorem hran031 : hrun 0 3 1 = true := by decide +kernel
theorem hran040 : hrun 0 4 0 = true := by decide +kernel
theorem hran041 : hrun 0 4 1 = true := by decide +kernel
theorem hran060 : hrun 0 6 0 = true := by decide +kernel
theorem hran061 : hrun 0 6 1 = true := by decide +kernel
theorem hran080 : hrun 0 8 0 = true := by decide +kernel
theorem hran081 : hrun 0 8 1 = true := by decide +kernel
end Go.Proofs.YtfhjamimbgdfpaaGreat.X.Exp
