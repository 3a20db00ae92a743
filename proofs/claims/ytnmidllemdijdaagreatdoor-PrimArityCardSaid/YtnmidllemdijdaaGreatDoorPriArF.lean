/- Runs of the law of arity, part F; no condition. -/
import Derived.Test.YtnmidllemdijdaaGreatDoorPriAr
namespace Go.Proofs.YtnmidllemdijdaaGreatDoor.X.Pri
open Go
set_option maxRecDepth 100000
theorem pran30_0 : prun 30 0 = true := by decide +kernel
theorem pran30_1 : prun 30 1 = true := by decide +kernel
theorem pran30_2 : prun 30 2 = true := by decide +kernel
theorem pran30_3 : prun 30 3 = true := by decide +kernel
theorem pran30_4 : prun 30 4 = true := by decide +kernel
theorem pran30_5 : prun 30 5 = true := by decide +kernel
theorem pran30_6 : prun 30 6 = true := by decide +kernel
theorem pran30_7 : prun 30 7 = true := by decide +kernel
theorem eight30 : Eight 30 := eight pran30_0 pran30_1 pran30_2 pran30_3 pran30_4 pran30_5 pran30_6 pran30_7
theorem pran31_0 : prun 31 0 = true := by decide +kernel
theorem pran31_1 : prun 31 1 = true := by decide +kernel
theorem pran31_2 : prun 31 2 = true := by decide +kernel
theorem pran31_3 : prun 31 3 = true := by decide +kernel
theorem pran31_4 : prun 31 4 = true := by decide +kernel
theorem pran31_5 : prun 31 5 = true := by decide +kernel
theorem pran31_6 : prun 31 6 = true := by decide +kernel
theorem pran31_7 : prun 31 7 = true := by decide +kernel
theorem eight31 : Eight 31 := eight pran31_0 pran31_1 pran31_2 pran31_3 pran31_4 pran31_5 pran31_6 pran31_7
theorem pran32_0 : prun 32 0 = true := by decide +kernel
theorem pran32_1 : prun 32 1 = true := by decide +kernel
theorem pran32_2 : prun 32 2 = true := by decide +kernel
theorem pran32_3 : prun 32 3 = true := by decide +kernel
theorem pran32_4 : prun 32 4 = true := by decide +kernel
theorem pran32_5 : prun 32 5 = true := by decide +kernel
theorem pran32_6 : prun 32 6 = true := by decide +kernel
theorem pran32_7 : prun 32 7 = true := by decide +kernel
theorem eight32 : Eight 32 := eight pran32_0 pran32_1 pran32_2 pran32_3 pran32_4 pran32_5 pran32_6 pran32_7
theorem pran33_0 : prun 33 0 = true := by decide +kernel
theorem pran33_1 : prun 33 1 = true := by decide +kernel
theorem pran33_2 : prun 33 2 = true := by decide +kernel
theorem pran33_3 : prun 33 3 = true := by decide +kernel
theorem pran33_4 : prun 33 4 = true := by decide +kernel
theorem pran33_5 : prun 33 5 = true := by decide +kernel
theorem pran33_6 : prun 33 6 = true := by decide +kernel
theorem pran33_7 : prun 33 7 = true := by decide +kernel
theorem eight33 : Eight 33 := eight pran33_0 pran33_1 pran33_2 pran33_3 pran33_4 pran33_5 pran33_6 pran33_7
theorem pran34_0 : prun 34 0 = true := by decide +kernel
theorem pran34_1 : prun 34 1 = true := by decide +kernel
theorem pran34_2 : prun 34 2 = true := by decide +kernel
theorem pran34_3 : prun 34 3 = true := by decide +kernel
theorem pran34_4 : prun 34 4 = true := by decide +kernel
theorem pran34_5 : prun 34 5 = true := by decide +kernel
theorem pran34_6 : prun 34 6 = true := by decide +kernel
theorem pran34_7 : prun 34 7 = true := by decide +kernel
theorem eight34 : Eight 34 := eight pran34_0 pran34_1 pran34_2 pran34_3 pran34_4 pran34_5 pran34_6 pran34_7
theorem pran35_0 : prun 35 0 = true := by decide +kernel
theorem pran35_1 : prun 35 1 = true := by decide +kernel
theorem pran35_2 : prun 35 2 = true := by decide +kernel
theorem pran35_3 : prun 35 3 = true := by decide +kernel
theorem pran35_4 : prun 35 4 = true := by decide +kernel
theorem pran35_5 : prun 35 5 = true := by decide +kernel
theorem pran35_6 : prun 35 6 = true := by decide +kernel
theorem pran35_7 : prun 35 7 = true := by decide +kernel
theorem eight35 : Eight 35 := eight pran35_0 pran35_1 pran35_2 pran35_3 pran35_4 pran35_5 pran35_6 pran35_7
end Go.Proofs.YtnmidllemdijdaaGreatDoor.X.Pri
