/- Runs of the law of arity, part L; no condition. -/
import Derived.Test.YtnmidllemdijdaaGreatDoorPriAr
namespace Go.Proofs.YtnmidllemdijdaaGreatDoor.X.Pri
open Go
set_option maxRecDepth 100000
theorem pran66_0 : prun 66 0 = true := by decide +kernel
theorem pran66_1 : prun 66 1 = true := by decide +kernel
theorem pran66_2 : prun 66 2 = true := by decide +kernel
theorem pran66_3 : prun 66 3 = true := by decide +kernel
theorem pran66_4 : prun 66 4 = true := by decide +kernel
theorem pran66_5 : prun 66 5 = true := by decide +kernel
theorem pran66_6 : prun 66 6 = true := by decide +kernel
theorem pran66_7 : prun 66 7 = true := by decide +kernel
theorem eight66 : Eight 66 := eight pran66_0 pran66_1 pran66_2 pran66_3 pran66_4 pran66_5 pran66_6 pran66_7
theorem pran67_0 : prun 67 0 = true := by decide +kernel
theorem pran67_1 : prun 67 1 = true := by decide +kernel
theorem pran67_2 : prun 67 2 = true := by decide +kernel
theorem pran67_3 : prun 67 3 = true := by decide +kernel
theorem pran67_4 : prun 67 4 = true := by decide +kernel
theorem pran67_5 : prun 67 5 = true := by decide +kernel
theorem pran67_6 : prun 67 6 = true := by decide +kernel
theorem pran67_7 : prun 67 7 = true := by decide +kernel
theorem eight67 : Eight 67 := eight pran67_0 pran67_1 pran67_2 pran67_3 pran67_4 pran67_5 pran67_6 pran67_7
theorem pran68_0 : prun 68 0 = true := by decide +kernel
theorem pran68_1 : prun 68 1 = true := by decide +kernel
theorem pran68_2 : prun 68 2 = true := by decide +kernel
theorem pran68_3 : prun 68 3 = true := by decide +kernel
theorem pran68_4 : prun 68 4 = true := by decide +kernel
theorem pran68_5 : prun 68 5 = true := by decide +kernel
theorem pran68_6 : prun 68 6 = true := by decide +kernel
theorem pran68_7 : prun 68 7 = true := by decide +kernel
theorem eight68 : Eight 68 := eight pran68_0 pran68_1 pran68_2 pran68_3 pran68_4 pran68_5 pran68_6 pran68_7
theorem pran69_0 : prun 69 0 = true := by decide +kernel
theorem pran69_1 : prun 69 1 = true := by decide +kernel
theorem pran69_2 : prun 69 2 = true := by decide +kernel
theorem pran69_3 : prun 69 3 = true := by decide +kernel
theorem pran69_4 : prun 69 4 = true := by decide +kernel
theorem pran69_5 : prun 69 5 = true := by decide +kernel
theorem pran69_6 : prun 69 6 = true := by decide +kernel
theorem pran69_7 : prun 69 7 = true := by decide +kernel
theorem eight69 : Eight 69 := eight pran69_0 pran69_1 pran69_2 pran69_3 pran69_4 pran69_5 pran69_6 pran69_7
theorem pran70_0 : prun 70 0 = true := by decide +kernel
theorem pran70_1 : prun 70 1 = true := by decide +kernel
theorem pran70_2 : prun 70 2 = true := by decide +kernel
theorem pran70_3 : prun 70 3 = true := by decide +kernel
theorem pran70_4 : prun 70 4 = true := by decide +kernel
theorem pran70_5 : prun 70 5 = true := by decide +kernel
theorem pran70_6 : prun 70 6 = true := by decide +kernel
theorem pran70_7 : prun 70 7 = true := by decide +kernel
theorem eight70 : Eight 70 := eight pran70_0 pran70_1 pran70_2 pran70_3 pran70_4 pran70_5 pran70_6 pran70_7
theorem pran71_0 : prun 71 0 = true := by decide +kernel
theorem pran71_1 : prun 71 1 = true := by decide +kernel
theorem pran71_2 : prun 71 2 = true := by decide +kernel
theorem pran71_3 : prun 71 3 = true := by decide +kernel
theorem pran71_4 : prun 71 4 = true := by decide +kernel
theorem pran71_5 : prun 71 5 = true := by decide +kernel
theorem pran71_6 : prun 71 6 = true := by decide +kernel
theorem pran71_7 : prun 71 7 = true := by decide +kernel
theorem eight71 : Eight 71 := eight pran71_0 pran71_1 pran71_2 pran71_3 pran71_4 pran71_5 pran71_6 pran71_7
end Go.Proofs.YtnmidllemdijdaaGreatDoor.X.Pri
