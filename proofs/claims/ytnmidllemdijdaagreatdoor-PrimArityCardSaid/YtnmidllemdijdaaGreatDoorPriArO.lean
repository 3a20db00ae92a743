/- Runs of the law of arity, part O; no condition. -/
import Derived.Test.YtnmidllemdijdaaGreatDoorPriAr
namespace Go.Proofs.YtnmidllemdijdaaGreatDoor.X.Pri
open Go
set_option maxRecDepth 100000
theorem pran84_0 : prun 84 0 = true := by decide +kernel
theorem pran84_1 : prun 84 1 = true := by decide +kernel
theorem pran84_2 : prun 84 2 = true := by decide +kernel
theorem pran84_3 : prun 84 3 = true := by decide +kernel
theorem pran84_4 : prun 84 4 = true := by decide +kernel
theorem pran84_5 : prun 84 5 = true := by decide +kernel
theorem pran84_6 : prun 84 6 = true := by decide +kernel
theorem pran84_7 : prun 84 7 = true := by decide +kernel
theorem eight84 : Eight 84 := eight pran84_0 pran84_1 pran84_2 pran84_3 pran84_4 pran84_5 pran84_6 pran84_7
end Go.Proofs.YtnmidllemdijdaaGreatDoor.X.Pri
