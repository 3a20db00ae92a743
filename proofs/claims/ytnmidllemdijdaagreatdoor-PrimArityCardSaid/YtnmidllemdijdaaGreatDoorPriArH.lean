/- Runs of the law of arity, part H; no condition. -/
import Derived.Test.YtnmidllemdijdaaGreatDoorPriAr
namespace Go.Proofs.YtnmidllemdijdaaGreatDoor.X.Pri
open Go
set_option maxRecDepth 100000
theorem pran42_0 : prun 42 0 = true := by decide +kernel
theorem pran42_1 : prun 42 1 = true := by decide +kernel
theorem pran42_2 : prun 42 2 = true := by decide +kernel
theorem pran42_3 : prun 42 3 = true := by decide +kernel
theorem pran42_4 : prun 42 4 = true := by decide +kernel
theorem pran42_5 : prun 42 5 = true := by decide +kernel
theorem pran42_6 : prun 42 6 = true := by decide +kernel
theorem pran42_7 : prun 42 7 = true := by decide +kernel
theorem eight42 : Eight 42 := eight pran42_0 pran42_1 pran42_2 pran42_3 pran42_4 pran42_5 pran42_6 pran42_7
theorem pran43_0 : prun 43 0 = true := by decide +kernel
theorem pran43_1 : prun 43 1 = true := by decide +kernel
theorem pran43_2 : prun 43 2 = true := by decide +kernel
theorem pran43_3 : prun 43 3 = true := by decide +kernel
theorem pran43_4 : prun 43 4 = true := by decide +kernel
theorem pran43_5 : prun 43 5 = true := by decide +kernel
theorem pran43_6 : prun 43 6 = true := by decide +kernel
theorem pran43_7 : prun 43 7 = true := by decide +kernel
theorem eight43 : Eight 43 := eight pran43_0 pran43_1 pran43_2 pran43_3 pran43_4 pran43_5 pran43_6 pran43_7
theorem pran44_0 : prun 44 0 = true := by decide +kernel
theorem pran44_1 : prun 44 1 = true := by decide +kernel
theorem pran44_2 : prun 44 2 = true := by decide +kernel
theorem pran44_3 : prun 44 3 = true := by decide +kernel
theorem pran44_4 : prun 44 4 = true := by decide +kernel
theorem pran44_5 : prun 44 5 = true := by decide +kernel
theorem pran44_6 : prun 44 6 = true := by decide +kernel
theorem pran44_7 : prun 44 7 = true := by decide +kernel
theorem eight44 : Eight 44 := eight pran44_0 pran44_1 pran44_2 pran44_3 pran44_4 pran44_5 pran44_6 pran44_7
theorem pran45_0 : prun 45 0 = true := by decide +kernel
theorem pran45_1 : prun 45 1 = true := by decide +kernel
theorem pran45_2 : prun 45 2 = true := by decide +kernel
theorem pran45_3 : prun 45 3 = true := by decide +kernel
theorem pran45_4 : prun 45 4 = true := by decide +kernel
theorem pran45_5 : prun 45 5 = true := by decide +kernel
theorem pran45_6 : prun 45 6 = true := by decide +kernel
theorem pran45_7 : prun 45 7 = true := by decide +kernel
theorem eight45 : Eight 45 := eight pran45_0 pran45_1 pran45_2 pran45_3 pran45_4 pran45_5 pran45_6 pran45_7
theorem pran46_0 : prun 46 0 = true := by decide +kernel
theorem pran46_1 : prun 46 1 = true := by decide +kernel
theorem pran46_2 : prun 46 2 = true := by decide +kernel
theorem pran46_3 : prun 46 3 = true := by decide +kernel
theorem pran46_4 : prun 46 4 = true := by decide +kernel
theorem pran46_5 : prun 46 5 = true := by decide +kernel
theorem pran46_6 : prun 46 6 = true := by decide +kernel
theorem pran46_7 : prun 46 7 = true := by decide +kernel
theorem eight46 : Eight 46 := eight pran46_0 pran46_1 pran46_2 pran46_3 pran46_4 pran46_5 pran46_6 pran46_7
theorem pran47_0 : prun 47 0 = true := by decide +kernel
theorem pran47_1 : prun 47 1 = true := by decide +kernel
theorem pran47_2 : prun 47 2 = true := by decide +kernel
theorem pran47_3 : prun 47 3 = true := by decide +kernel
theorem pran47_4 : prun 47 4 = true := by decide +kernel
theorem pran47_5 : prun 47 5 = true := by decide +kernel
theorem pran47_6 : prun 47 6 = true := by decide +kernel
theorem pran47_7 : prun 47 7 = true := by decide +kernel
theorem eight47 : Eight 47 := eight pran47_0 pran47_1 pran47_2 pran47_3 pran47_4 pran47_5 pran47_6 pran47_7
end Go.Proofs.YtnmidllemdijdaaGreatDoor.X.Pri
