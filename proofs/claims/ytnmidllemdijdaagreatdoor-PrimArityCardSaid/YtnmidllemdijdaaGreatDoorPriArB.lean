/- Runs of the law of arity, part B; no condition. -/
import Derived.Test.YtnmidllemdijdaaGreatDoorPriAr
namespace Go.Proofs.YtnmidllemdijdaaGreatDoor.X.Pri
open Go
set_option maxRecDepth 100000
theorem pran6_0 : prun 6 0 = true := by decide +kernel
theorem pran6_1 : prun 6 1 = true := by decide +kernel
theorem pran6_2 : prun 6 2 = true := by decide +kernel
theorem pran6_3 : prun 6 3 = true := by decide +kernel
theorem pran6_4 : prun 6 4 = true := by decide +kernel
theorem pran6_5 : prun 6 5 = true := by decide +kernel
theorem pran6_6 : prun 6 6 = true := by decide +kernel
theorem pran6_7 : prun 6 7 = true := by decide +kernel
theorem eight6 : Eight 6 := eight pran6_0 pran6_1 pran6_2 pran6_3 pran6_4 pran6_5 pran6_6 pran6_7
theorem pran7_0 : prun 7 0 = true := by decide +kernel
theorem pran7_1 : prun 7 1 = true := by decide +kernel
theorem pran7_2 : prun 7 2 = true := by decide +kernel
theorem pran7_3 : prun 7 3 = true := by decide +kernel
theorem pran7_4 : prun 7 4 = true := by decide +kernel
theorem pran7_5 : prun 7 5 = true := by decide +kernel
theorem pran7_6 : prun 7 6 = true := by decide +kernel
theorem pran7_7 : prun 7 7 = true := by decide +kernel
theorem eight7 : Eight 7 := eight pran7_0 pran7_1 pran7_2 pran7_3 pran7_4 pran7_5 pran7_6 pran7_7
theorem pran8_0 : prun 8 0 = true := by decide +kernel
theorem pran8_1 : prun 8 1 = true := by decide +kernel
theorem pran8_2 : prun 8 2 = true := by decide +kernel
theorem pran8_3 : prun 8 3 = true := by decide +kernel
theorem pran8_4 : prun 8 4 = true := by decide +kernel
theorem pran8_5 : prun 8 5 = true := by decide +kernel
theorem pran8_6 : prun 8 6 = true := by decide +kernel
theorem pran8_7 : prun 8 7 = true := by decide +kernel
theorem eight8 : Eight 8 := eight pran8_0 pran8_1 pran8_2 pran8_3 pran8_4 pran8_5 pran8_6 pran8_7
theorem pran9_0 : prun 9 0 = true := by decide +kernel
theorem pran9_1 : prun 9 1 = true := by decide +kernel
theorem pran9_2 : prun 9 2 = true := by decide +kernel
theorem pran9_3 : prun 9 3 = true := by decide +kernel
theorem pran9_4 : prun 9 4 = true := by decide +kernel
theorem pran9_5 : prun 9 5 = true := by decide +kernel
theorem pran9_6 : prun 9 6 = true := by decide +kernel
theorem pran9_7 : prun 9 7 = true := by decide +kernel
theorem eight9 : Eight 9 := eight pran9_0 pran9_1 pran9_2 pran9_3 pran9_4 pran9_5 pran9_6 pran9_7
theorem pran10_0 : prun 10 0 = true := by decide +kernel
theorem pran10_1 : prun 10 1 = true := by decide +kernel
theorem pran10_2 : prun 10 2 = true := by decide +kernel
theorem pran10_3 : prun 10 3 = true := by decide +kernel
theorem pran10_4 : prun 10 4 = true := by decide +kernel
theorem pran10_5 : prun 10 5 = true := by decide +kernel
theorem pran10_6 : prun 10 6 = true := by decide +kernel
theorem pran10_7 : prun 10 7 = true := by decide +kernel
theorem eight10 : Eight 10 := eight pran10_0 pran10_1 pran10_2 pran10_3 pran10_4 pran10_5 pran10_6 pran10_7
theorem pran11_0 : prun 11 0 = true := by decide +kernel
theorem pran11_1 : prun 11 1 = true := by decide +kernel
theorem pran11_2 : prun 11 2 = true := by decide +kernel
theorem pran11_3 : prun 11 3 = true := by decide +kernel
theorem pran11_4 : prun 11 4 = true := by decide +kernel
theorem pran11_5 : prun 11 5 = true := by decide +kernel
theorem pran11_6 : prun 11 6 = true := by decide +kernel
theorem pran11_7 : prun 11 7 = true := by decide +kernel
theorem eight11 : Eight 11 := eight pran11_0 pran11_1 pran11_2 pran11_3 pran11_4 pran11_5 pran11_6 pran11_7
end Go.Proofs.YtnmidllemdijdaaGreatDoor.X.Pri
