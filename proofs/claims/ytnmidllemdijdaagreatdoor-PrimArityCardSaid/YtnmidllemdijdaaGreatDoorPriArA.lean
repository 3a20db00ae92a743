/- Runs of the law of arity, part A; no condition. -/
import Derived.Test.YtnmidllemdijdaaGreatDoorPriAr
namespace Go.Proofs.YtnmidllemdijdaaGreatDoor.X.Pri
open Go
set_option maxRecDepth 100000
theorem pran0_0 : prun 0 0 = true := by decide +kernel
theorem pran0_1 : prun 0 1 = true := by decide +kernel
theorem pran0_2 : prun 0 2 = true := by decide +kernel
theorem pran0_3 : prun 0 3 = true := by decide +kernel
theorem pran0_4 : prun 0 4 = true := by decide +kernel
theorem pran0_5 : prun 0 5 = true := by decide +kernel
theorem pran0_6 : prun 0 6 = true := by decide +kernel
theorem pran0_7 : prun 0 7 = true := by decide +kernel
theorem eight0 : Eight 0 := eight pran0_0 pran0_1 pran0_2 pran0_3 pran0_4 pran0_5 pran0_6 pran0_7
theorem pran1_0 : prun 1 0 = true := by decide +kernel
theorem pran1_1 : prun 1 1 = true := by decide +kernel
theorem pran1_2 : prun 1 2 = true := by decide +kernel
theorem pran1_3 : prun 1 3 = true := by decide +kernel
theorem pran1_4 : prun 1 4 = true := by decide +kernel
theorem pran1_5 : prun 1 5 = true := by decide +kernel
theorem pran1_6 : prun 1 6 = true := by decide +kernel
theorem pran1_7 : prun 1 7 = true := by decide +kernel
theorem eight1 : Eight 1 := eight pran1_0 pran1_1 pran1_2 pran1_3 pran1_4 pran1_5 pran1_6 pran1_7
theorem pran2_0 : prun 2 0 = true := by decide +kernel
theorem pran2_1 : prun 2 1 = true := by decide +kernel
theorem pran2_2 : prun 2 2 = true := by decide +kernel
theorem pran2_3 : prun 2 3 = true := by decide +kernel
theorem pran2_4 : prun 2 4 = true := by decide +kernel
theorem pran2_5 : prun 2 5 = true := by decide +kernel
theorem pran2_6 : prun 2 6 = true := by decide +kernel
theorem pran2_7 : prun 2 7 = true := by decide +kernel
theorem eight2 : Eight 2 := eight pran2_0 pran2_1 pran2_2 pran2_3 pran2_4 pran2_5 pran2_6 pran2_7
theorem pran3_0 : prun 3 0 = true := by decide +kernel
theorem pran3_1 : prun 3 1 = true := by decide +kernel
theorem pran3_2 : prun 3 2 = true := by decide +kernel
theorem pran3_3 : prun 3 3 = true := by decide +kernel
theorem pran3_4 : prun 3 4 = true := by decide +kernel
theorem pran3_5 : prun 3 5 = true := by decide +kernel
theorem pran3_6 : prun 3 6 = true := by decide +kernel
theorem pran3_7 : prun 3 7 = true := by decide +kernel
theorem eight3 : Eight 3 := eight pran3_0 pran3_1 pran3_2 pran3_3 pran3_4 pran3_5 pran3_6 pran3_7
theorem pran4_0 : prun 4 0 = true := by decide +kernel
theorem pran4_1 : prun 4 1 = true := by decide +kernel
theorem pran4_2 : prun 4 2 = true := by decide +kernel
theorem pran4_3 : prun 4 3 = true := by decide +kernel
theorem pran4_4 : prun 4 4 = true := by decide +kernel
theorem pran4_5 : prun 4 5 = true := by decide +kernel
theorem pran4_6 : prun 4 6 = true := by decide +kernel
theorem pran4_7 : prun 4 7 = true := by decide +kernel
theorem eight4 : Eight 4 := eight pran4_0 pran4_1 pran4_2 pran4_3 pran4_4 pran4_5 pran4_6 pran4_7
theorem pran5_0 : prun 5 0 = true := by decide +kernel
theorem pran5_1 : prun 5 1 = true := by decide +kernel
theorem pran5_2 : prun 5 2 = true := by decide +kernel
theorem pran5_3 : prun 5 3 = true := by decide +kernel
theorem pran5_4 : prun 5 4 = true := by decide +kernel
theorem pran5_5 : prun 5 5 = true := by decide +kernel
theorem pran5_6 : prun 5 6 = true := by decide +kernel
theorem pran5_7 : prun 5 7 = true := by decide +kernel
theorem eight5 : Eight 5 := eight pran5_0 pran5_1 pran5_2 pran5_3 pran5_4 pran5_5 pran5_6 pran5_7
end Go.Proofs.YtnmidllemdijdaaGreatDoor.X.Pri
