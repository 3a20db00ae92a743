/- Runs of the law of arity, part I; no condition. -/
import Derived.Test.YtnmidllemdijdaaGreatDoorPriAr
namespace Go.Proofs.YtnmidllemdijdaaGreatDoor.X.Pri
open Go
set_option maxRecDepth 100000
theorem pran48_0 : prun 48 0 = true := by decide +kernel
theorem pran48_1 : prun 48 1 = true := by decide +kernel
theorem pran48_2 : prun 48 2 = true := by decide +kernel
theorem pran48_3 : prun 48 3 = true := by decide +kernel
theorem pran48_4 : prun 48 4 = true := by decide +kernel
theorem pran48_5 : prun 48 5 = true := by decide +kernel
theorem pran48_6 : prun 48 6 = true := by decide +kernel
theorem pran48_7 : prun 48 7 = true := by decide +kernel
theorem eight48 : Eight 48 := eight pran48_0 pran48_1 pran48_2 pran48_3 pran48_4 pran48_5 pran48_6 pran48_7
theorem pran49_0 : prun 49 0 = true := by decide +kernel
theorem pran49_1 : prun 49 1 = true := by decide +kernel
theorem pran49_2 : prun 49 2 = true := by decide +kernel
theorem pran49_3 : prun 49 3 = true := by decide +kernel
theorem pran49_4 : prun 49 4 = true := by decide +kernel
theorem pran49_5 : prun 49 5 = true := by decide +kernel
theorem pran49_6 : prun 49 6 = true := by decide +kernel
theorem pran49_7 : prun 49 7 = true := by decide +kernel
theorem eight49 : Eight 49 := eight pran49_0 pran49_1 pran49_2 pran49_3 pran49_4 pran49_5 pran49_6 pran49_7
theorem pran50_0 : prun 50 0 = true := by decide +kernel
theorem pran50_1 : prun 50 1 = true := by decide +kernel
theorem pran50_2 : prun 50 2 = true := by decide +kernel
theorem pran50_3 : prun 50 3 = true := by decide +kernel
theorem pran50_4 : prun 50 4 = true := by decide +kernel
theorem pran50_5 : prun 50 5 = true := by decide +kernel
theorem pran50_6 : prun 50 6 = true := by decide +kernel
theorem pran50_7 : prun 50 7 = true := by decide +kernel
theorem eight50 : Eight 50 := eight pran50_0 pran50_1 pran50_2 pran50_3 pran50_4 pran50_5 pran50_6 pran50_7
theorem pran51_0 : prun 51 0 = true := by decide +kernel
theorem pran51_1 : prun 51 1 = true := by decide +kernel
theorem pran51_2 : prun 51 2 = true := by decide +kernel
theorem pran51_3 : prun 51 3 = true := by decide +kernel
theorem pran51_4 : prun 51 4 = true := by decide +kernel
theorem pran51_5 : prun 51 5 = true := by decide +kernel
theorem pran51_6 : prun 51 6 = true := by decide +kernel
theorem pran51_7 : prun 51 7 = true := by decide +kernel
theorem eight51 : Eight 51 := eight pran51_0 pran51_1 pran51_2 pran51_3 pran51_4 pran51_5 pran51_6 pran51_7
theorem pran52_0 : prun 52 0 = true := by decide +kernel
theorem pran52_1 : prun 52 1 = true := by decide +kernel
theorem pran52_2 : prun 52 2 = true := by decide +kernel
theorem pran52_3 : prun 52 3 = true := by decide +kernel
theorem pran52_4 : prun 52 4 = true := by decide +kernel
theorem pran52_5 : prun 52 5 = true := by decide +kernel
theorem pran52_6 : prun 52 6 = true := by decide +kernel
theorem pran52_7 : prun 52 7 = true := by decide +kernel
theorem eight52 : Eight 52 := eight pran52_0 pran52_1 pran52_2 pran52_3 pran52_4 pran52_5 pran52_6 pran52_7
theorem pran53_0 : prun 53 0 = true := by decide +kernel
theorem pran53_1 : prun 53 1 = true := by decide +kernel
theorem pran53_2 : prun 53 2 = true := by decide +kernel
theorem pran53_3 : prun 53 3 = true := by decide +kernel
theorem pran53_4 : prun 53 4 = true := by decide +kernel
theorem pran53_5 : prun 53 5 = true := by decide +kernel
theorem pran53_6 : prun 53 6 = true := by decide +kernel
theorem pran53_7 : prun 53 7 = true := by decide +kernel
theorem eight53 : Eight 53 := eight pran53_0 pran53_1 pran53_2 pran53_3 pran53_4 pran53_5 pran53_6 pran53_7
end Go.Proofs.YtnmidllemdijdaaGreatDoor.X.Pri
