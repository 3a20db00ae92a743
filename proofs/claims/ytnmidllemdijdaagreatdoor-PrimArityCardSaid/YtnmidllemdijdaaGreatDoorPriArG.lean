/- Runs of the law of arity, part G; no condition. -/
import Derived.Test.YtnmidllemdijdaaGreatDoorPriAr
namespace Go.Proofs.YtnmidllemdijdaaGreatDoor.X.Pri
open Go
set_option maxRecDepth 100000
theorem pran36_0 : prun 36 0 = true := by decide +kernel
theorem pran36_1 : prun 36 1 = true := by decide +kernel
theorem pran36_2 : prun 36 2 = true := by decide +kernel
theorem pran36_3 : prun 36 3 = true := by decide +kernel
theorem pran36_4 : prun 36 4 = true := by decide +kernel
theorem pran36_5 : prun 36 5 = true := by decide +kernel
theorem pran36_6 : prun 36 6 = true := by decide +kernel
theorem pran36_7 : prun 36 7 = true := by decide +kernel
theorem eight36 : Eight 36 := eight pran36_0 pran36_1 pran36_2 pran36_3 pran36_4 pran36_5 pran36_6 pran36_7
theorem pran37_0 : prun 37 0 = true := by decide +kernel
theorem pran37_1 : prun 37 1 = true := by decide +kernel
theorem pran37_2 : prun 37 2 = true := by decide +kernel
theorem pran37_3 : prun 37 3 = true := by decide +kernel
theorem pran37_4 : prun 37 4 = true := by decide +kernel
theorem pran37_5 : prun 37 5 = true := by decide +kernel
theorem pran37_6 : prun 37 6 = true := by decide +kernel
theorem pran37_7 : prun 37 7 = true := by decide +kernel
theorem eight37 : Eight 37 := eight pran37_0 pran37_1 pran37_2 pran37_3 pran37_4 pran37_5 pran37_6 pran37_7
theorem pran38_0 : prun 38 0 = true := by decide +kernel
theorem pran38_1 : prun 38 1 = true := by decide +kernel
theorem pran38_2 : prun 38 2 = true := by decide +kernel
theorem pran38_3 : prun 38 3 = true := by decide +kernel
theorem pran38_4 : prun 38 4 = true := by decide +kernel
theorem pran38_5 : prun 38 5 = true := by decide +kernel
theorem pran38_6 : prun 38 6 = true := by decide +kernel
theorem pran38_7 : prun 38 7 = true := by decide +kernel
theorem eight38 : Eight 38 := eight pran38_0 pran38_1 pran38_2 pran38_3 pran38_4 pran38_5 pran38_6 pran38_7
theorem pran39_0 : prun 39 0 = true := by decide +kernel
theorem pran39_1 : prun 39 1 = true := by decide +kernel
theorem pran39_2 : prun 39 2 = true := by decide +kernel
theorem pran39_3 : prun 39 3 = true := by decide +kernel
theorem pran39_4 : prun 39 4 = true := by decide +kernel
theorem pran39_5 : prun 39 5 = true := by decide +kernel
theorem pran39_6 : prun 39 6 = true := by decide +kernel
theorem pran39_7 : prun 39 7 = true := by decide +kernel
theorem eight39 : Eight 39 := eight pran39_0 pran39_1 pran39_2 pran39_3 pran39_4 pran39_5 pran39_6 pran39_7
theorem pran40_0 : prun 40 0 = true := by decide +kernel
theorem pran40_1 : prun 40 1 = true := by decide +kernel
theorem pran40_2 : prun 40 2 = true := by decide +kernel
theorem pran40_3 : prun 40 3 = true := by decide +kernel
theorem pran40_4 : prun 40 4 = true := by decide +kernel
theorem pran40_5 : prun 40 5 = true := by decide +kernel
theorem pran40_6 : prun 40 6 = true := by decide +kernel
theorem pran40_7 : prun 40 7 = true := by decide +kernel
theorem eight40 : Eight 40 := eight pran40_0 pran40_1 pran40_2 pran40_3 pran40_4 pran40_5 pran40_6 pran40_7
theorem pran41_0 : prun 41 0 = true := by decide +kernel
theorem pran41_1 : prun 41 1 = true := by decide +kernel
theorem pran41_2 : prun 41 2 = true := by decide +kernel
theorem pran41_3 : prun 41 3 = true := by decide +kernel
theorem pran41_4 : prun 41 4 = true := by decide +kernel
theorem pran41_5 : prun 41 5 = true := by decide +kernel
theorem pran41_6 : prun 41 6 = true := by decide +kernel
theorem pran41_7 : prun 41 7 = true := by decide +kernel
theorem eight41 : Eight 41 := eight pran41_0 pran41_1 pran41_2 pran41_3 pran41_4 pran41_5 pran41_6 pran41_7
end Go.Proofs.YtnmidllemdijdaaGreatDoor.X.Pri
