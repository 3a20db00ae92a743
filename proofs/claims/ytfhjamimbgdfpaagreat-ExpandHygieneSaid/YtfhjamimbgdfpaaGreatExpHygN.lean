/- Runs of the law of hygiene, part N; no condition. -/
import Derived.Test.YtfhjamimbgdfpaaGreatExpHyg
namespace Go.Proofs.YtfhjamimbgdfpaaGreat.X.Exp
open Go
set_option maxRecDepth 100000
theorem hran802 : hrun 8 0 2 = true := by decide +kernel
theorem hran803 : hrun 8 0 3 = true := by decide +kernel
theorem hran812 : hrun 8 1 2 = true := by decide +kernel
theorem hran813 : hrun 8 1 3 = true := by decide +kernel
theorem hran822 : hrun 8 2 2 = true := by decide +kernel
theorem hran823 : hrun 8 2 3 = true := by decide +kernel
theorem hran832 : hrun 8 3 2 = true := by decide +kernel
theorem hran833 : hrun 8 3 3 = true := by decide +kernel
theorem hran842 : hrun 8 4 2 = true := by decide +kernel
theorem hran843 : hrun 8 4 3 = true := by decide +kernel
theorem hran862 : hrun 8 6 2 = true := by decide +kernel
theorem hran863 : hrun 8 6 3 = true := by decide +kernel
end Go.Proofs.YtfhjamimbgdfpaaGreat.X.Exp
