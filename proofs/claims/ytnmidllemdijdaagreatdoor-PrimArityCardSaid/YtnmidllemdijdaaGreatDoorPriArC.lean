/- Runs of the law of arity, part C; no condition. -/
import Derived.Test.YtnmidllemdijdaaGreatDoorPriAr
namespace Go.Proofs.YtnmidllemdijdaaGreatDoor.X.Pri
open Go
set_option maxRecDepth 100000
theorem pran12_0 : prun 12 0 = true := by decide +kernel
theorem pran12_1 : prun 12 1 = true := by decide +kernel
theorem pran12_2 : prun 12 2 = true := by decide +kernel
theorem pran12_3 : prun 12 3 = true := by decide +kernel
theorem pran12_4 : prun 12 4 = true := by decide +kernel
theorem pran12_5 : prun 12 5 = true := by decide +kernel
theorem pran12_6 : prun 12 6 = true := by decide +kernel
theorem pran12_7 : prun 12 7 = true := by decide +kernel
theorem eight12 : Eight 12 := eight pran12_0 pran12_1 pran12_2 pran12_3 pran12_4 pran12_5 pran12_6 pran12_7
theorem pran13_0 : prun 13 0 = true := by decide +kernel
theorem pran13_1 : prun 13 1 = true := by decide +kernel
theorem pran13_2 : prun 13 2 = true := by decide +kernel
theorem pran13_3 : prun 13 3 = true := by decide +kernel
theorem pran13_4 : prun 13 4 = true := by decide +kernel
theorem pran13_5 : prun 13 5 = true := by decide +kernel
theorem pran13_6 : prun 13 6 = true := by decide +kernel
theorem pran13_7 : prun 13 7 = true := by decide +kernel
theorem eight13 : Eight 13 := eight pran13_0 pran13_1 pran13_2 pran13_3 pran13_4 pran13_5 pran13_6 pran13_7
theorem pran14_0 : prun 14 0 = true := by decide +kernel
theorem pran14_1 : prun 14 1 = true := by decide +kernel
theorem pran14_2 : prun 14 2 = true := by decide +kernel
theorem pran14_3 : prun 14 3 = true := by decide +kernel
theorem pran14_4 : prun 14 4 = true := by decide +kernel
theorem pran14_5 : prun 14 5 = true := by decide +kernel
theorem pran14_6 : prun 14 6 = true := by decide +kernel
theorem pran14_7 : prun 14 7 = true := by decide +kernel
theorem eight14 : Eight 14 := eight pran14_0 pran14_1 pran14_2 pran14_3 pran14_4 pran14_5 pran14_6 pran14_7
theorem pran15_0 : prun 15 0 = true := by decide +kernel
theorem pran15_1 : prun 15 1 = true := by decide +kernel
theorem pran15_2 : prun 15 2 = true := by decide +kernel
theorem pran15_3 : prun 15 3 = true := by decide +kernel
theorem pran15_4 : prun 15 4 = true := by decide +kernel
theorem pran15_5 : prun 15 5 = true := by decide +kernel
theorem pran15_6 : prun 15 6 = true := by decide +kernel
theorem pran15_7 : prun 15 7 = true := by decide +kernel
theorem eight15 : Eight 15 := eight pran15_0 pran15_1 pran15_2 pran15_3 pran15_4 pran15_5 pran15_6 pran15_7
theorem pran16_0 : prun 16 0 = true := by decide +kernel
theorem pran16_1 : prun 16 1 = true := by decide +kernel
theorem pran16_2 : prun 16 2 = true := by decide +kernel
theorem pran16_3 : prun 16 3 = true := by decide +kernel
theorem pran16_4 : prun 16 4 = true := by decide +kernel
theorem pran16_5 : prun 16 5 = true := by decide +kernel
theorem pran16_6 : prun 16 6 = true := by decide +kernel
theorem pran16_7 : prun 16 7 = true := by decide +kernel
theorem eight16 : Eight 16 := eight pran16_0 pran16_1 pran16_2 pran16_3 pran16_4 pran16_5 pran16_6 pran16_7
theorem pran17_0 : prun 17 0 = true := by decide +kernel
theorem pran17_1 : prun 17 1 = true := by decide +kernel
theorem pran17_2 : prun 17 2 = true := by decide +kernel
theorem pran17_3 : prun 17 3 = true := by decide +kernel
theorem pran17_4 : prun 17 4 = true := by decide +kernel
theorem pran17_5 : prun 17 5 = true := by decide +kernel
theorem pran17_6 : prun 17 6 = true := by decide +kernel
theorem pran17_7 : prun 17 7 = true := by decide +kernel
theorem eight17 : Eight 17 := eight pran17_0 pran17_1 pran17_2 pran17_3 pran17_4 pran17_5 pran17_6 pran17_7
end Go.Proofs.YtnmidllemdijdaaGreatDoor.X.Pri
