/- Runs of the law of arity, part D; no condition. -/
import Derived.Test.YtnmidllemdijdaaGreatDoorPriAr
namespace Go.Proofs.YtnmidllemdijdaaGreatDoor.X.Pri
open Go
set_option maxRecDepth 100000
theorem pran18_0 : prun 18 0 = true := by decide +kernel
theorem pran18_1 : prun 18 1 = true := by decide +kernel
theorem pran18_2 : prun 18 2 = true := by decide +kernel
theorem pran18_3 : prun 18 3 = true := by decide +kernel
theorem pran18_4 : prun 18 4 = true := by decide +kernel
theorem pran18_5 : prun 18 5 = true := by decide +kernel
theorem pran18_6 : prun 18 6 = true := by decide +kernel
theorem pran18_7 : prun 18 7 = true := by decide +kernel
theorem eight18 : Eight 18 := eight pran18_0 pran18_1 pran18_2 pran18_3 pran18_4 pran18_5 pran18_6 pran18_7
theorem pran19_0 : prun 19 0 = true := by decide +kernel
theorem pran19_1 : prun 19 1 = true := by decide +kernel
theorem pran19_2 : prun 19 2 = true := by decide +kernel
theorem pran19_3 : prun 19 3 = true := by decide +kernel
theorem pran19_4 : prun 19 4 = true := by decide +kernel
theorem pran19_5 : prun 19 5 = true := by decide +kernel
theorem pran19_6 : prun 19 6 = true := by decide +kernel
theorem pran19_7 : prun 19 7 = true := by decide +kernel
theorem eight19 : Eight 19 := eight pran19_0 pran19_1 pran19_2 pran19_3 pran19_4 pran19_5 pran19_6 pran19_7
theorem pran20_0 : prun 20 0 = true := by decide +kernel
theorem pran20_1 : prun 20 1 = true := by decide +kernel
theorem pran20_2 : prun 20 2 = true := by decide +kernel
theorem pran20_3 : prun 20 3 = true := by decide +kernel
theorem pran20_4 : prun 20 4 = true := by decide +kernel
theorem pran20_5 : prun 20 5 = true := by decide +kernel
theorem pran20_6 : prun 20 6 = true := by decide +kernel
theorem pran20_7 : prun 20 7 = true := by decide +kernel
theorem eight20 : Eight 20 := eight pran20_0 pran20_1 pran20_2 pran20_3 pran20_4 pran20_5 pran20_6 pran20_7
theorem pran21_0 : prun 21 0 = true := by decide +kernel
theorem pran21_1 : prun 21 1 = true := by decide +kernel
theorem pran21_2 : prun 21 2 = true := by decide +kernel
theorem pran21_3 : prun 21 3 = true := by decide +kernel
theorem pran21_4 : prun 21 4 = true := by decide +kernel
theorem pran21_5 : prun 21 5 = true := by decide +kernel
theorem pran21_6 : prun 21 6 = true := by decide +kernel
theorem pran21_7 : prun 21 7 = true := by decide +kernel
theorem eight21 : Eight 21 := eight pran21_0 pran21_1 pran21_2 pran21_3 pran21_4 pran21_5 pran21_6 pran21_7
theorem pran22_0 : prun 22 0 = true := by decide +kernel
theorem pran22_1 : prun 22 1 = true := by decide +kernel
theorem pran22_2 : prun 22 2 = true := by decide +kernel
theorem pran22_3 : prun 22 3 = true := by decide +kernel
theorem pran22_4 : prun 22 4 = true := by decide +kernel
theorem pran22_5 : prun 22 5 = true := by decide +kernel
theorem pran22_6 : prun 22 6 = true := by decide +kernel
theorem pran22_7 : prun 22 7 = true := by decide +kernel
theorem eight22 : Eight 22 := eight pran22_0 pran22_1 pran22_2 pran22_3 pran22_4 pran22_5 pran22_6 pran22_7
theorem pran23_0 : prun 23 0 = true := by decide +kernel
theorem pran23_1 : prun 23 1 = true := by decide +kernel
theorem pran23_2 : prun 23 2 = true := by decide +kernel
theorem pran23_3 : prun 23 3 = true := by decide +kernel
theorem pran23_4 : prun 23 4 = true := by decide +kernel
theorem pran23_5 : prun 23 5 = true := by decide +kernel
theorem pran23_6 : prun 23 6 = true := by decide +kernel
theorem pran23_7 : prun 23 7 = true := by decide +kernel
theorem eight23 : Eight 23 := eight pran23_0 pran23_1 pran23_2 pran23_3 pran23_4 pran23_5 pran23_6 pran23_7
end Go.Proofs.YtnmidllemdijdaaGreatDoor.X.Pri
