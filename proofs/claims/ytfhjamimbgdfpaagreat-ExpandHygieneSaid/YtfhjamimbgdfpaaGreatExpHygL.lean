/- Runs of the law of hygiene, part L; no condition. -/
import Derived.Test.YtfhjamimbgdfpaaGreatExpHyg
namespace Go.Proofs.YtfhjamimbgdfpaaGreat.X.Exp
open Go
set_option maxRecDepth 100000
theorem hran602 : hrun 6 0 2 = true := by decide +kernel
theorem hran603 : hrun 6 0 3 = true := by decide +kernel
theorem hran612 : hrun 6 1 2 = true := by decide +kernel
theorem hran613 : hrun 6 1 3 = true := by decide +kernel
theorem hran622 : hrun 6 2 2 = true := by decide +kernel
theorem hran623 : hrun 6 2 3 = true := by decide +kernel
theorem hran632 : hrun 6 3 2 = true := by decide +kernel
theorem hran633 : hrun 6 3 3 = true := by decide +kernel
theorem hran642 : hrun 6 4 2 = true := by decide +kernel
theorem hran643 : hrun 6 4 3 = true := by decide +kernel
theorem hran682 : hrun 6 8 2 = true := by decide +kernel
theorem hran683 : hrun 6 8 3 = true := by decide +kernel
end Go.Proofs.YtfhjamimbgdfpaaGreat.X.Exp
