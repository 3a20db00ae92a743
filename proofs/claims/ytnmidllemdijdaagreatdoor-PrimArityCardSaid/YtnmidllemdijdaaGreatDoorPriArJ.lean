/- Runs of the law of arity, part J; no condition. -/
import Derived.Test.YtnmidllemdijdaaGreatDoorPriAr
namespace Go.Proofs.YtnmidllemdijdaaGreatDoor.X.Pri
open Go
set_option maxRecDepth 100000
theorem pran54_0 : prun 54 0 = true := by decide +kernel
theorem pran54_1 : prun 54 1 = true := by decide +kernel
theorem pran54_2 : prun 54 2 = true := by decide +kernel
theorem pran54_3 : prun 54 3 = true := by decide +kernel
theorem pran54_4 : prun 54 4 = true := by decide +kernel
theorem pran54_5 : prun 54 5 = true := by decide +kernel
theorem pran54_6 : prun 54 6 = true := by decide +kernel
theorem pran54_7 : prun 54 7 = true := by decide +kernel
theorem eight54 : Eight 54 := eight pran54_0 pran54_1 pran54_2 pran54_3 pran54_4 pran54_5 pran54_6 pran54_7
theorem pran55_0 : prun 55 0 = true := by decide +kernel
theorem pran55_1 : prun 55 1 = true := by decide +kernel
theorem pran55_2 : prun 55 2 = true := by decide +kernel
theorem pran55_3 : prun 55 3 = true := by decide +kernel
theorem pran55_4 : prun 55 4 = true := by decide +kernel
theorem pran55_5 : prun 55 5 = true := by decide +kernel
theorem pran55_6 : prun 55 6 = true := by decide +kernel
theorem pran55_7 : prun 55 7 = true := by decide +kernel
theorem eight55 : Eight 55 := eight pran55_0 pran55_1 pran55_2 pran55_3 pran55_4 pran55_5 pran55_6 pran55_7
theorem pran56_0 : prun 56 0 = true := by decide +kernel
theorem pran56_1 : prun 56 1 = true := by decide +kernel
theorem pran56_2 : prun 56 2 = true := by decide +kernel
theorem pran56_3 : prun 56 3 = true := by decide +kernel
theorem pran56_4 : prun 56 4 = true := by decide +kernel
theorem pran56_5 : prun 56 5 = true := by decide +kernel
theorem pran56_6 : prun 56 6 = true := by decide +kernel
theorem pran56_7 : prun 56 7 = true := by decide +kernel
theorem eight56 : Eight 56 := eight pran56_0 pran56_1 pran56_2 pran56_3 pran56_4 pran56_5 pran56_6 pran56_7
theorem pran57_0 : prun 57 0 = true := by decide +kernel
theorem pran57_1 : prun 57 1 = true := by decide +kernel
theorem pran57_2 : prun 57 2 = true := by decide +kernel
theorem pran57_3 : prun 57 3 = true := by decide +kernel
theorem pran57_4 : prun 57 4 = true := by decide +kernel
theorem pran57_5 : prun 57 5 = true := by decide +kernel
theorem pran57_6 : prun 57 6 = true := by decide +kernel
theorem pran57_7 : prun 57 7 = true := by decide +kernel
theorem eight57 : Eight 57 := eight pran57_0 pran57_1 pran57_2 pran57_3 pran57_4 pran57_5 pran57_6 pran57_7
theorem pran58_0 : prun 58 0 = true := by decide +kernel
theorem pran58_1 : prun 58 1 = true := by decide +kernel
theorem pran58_2 : prun 58 2 = true := by decide +kernel
theorem pran58_3 : prun 58 3 = true := by decide +kernel
theorem pran58_4 : prun 58 4 = true := by decide +kernel
theorem pran58_5 : prun 58 5 = true := by decide +kernel
theorem pran58_6 : prun 58 6 = true := by decide +kernel
theorem pran58_7 : prun 58 7 = true := by decide +kernel
theorem eight58 : Eight 58 := eight pran58_0 pran58_1 pran58_2 pran58_3 pran58_4 pran58_5 pran58_6 pran58_7
theorem pran59_0 : prun 59 0 = true := by decide +kernel
theorem pran59_1 : prun 59 1 = true := by decide +kernel
theorem pran59_2 : prun 59 2 = true := by decide +kernel
theorem pran59_3 : prun 59 3 = true := by decide +kernel
theorem pran59_4 : prun 59 4 = true := by decide +kernel
theorem pran59_5 : prun 59 5 = true := by decide +kernel
theorem pran59_6 : prun 59 6 = true := by decide +kernel
theorem pran59_7 : prun 59 7 = true := by decide +kernel
theorem eight59 : Eight 59 := eight pran59_0 pran59_1 pran59_2 pran59_3 pran59_4 pran59_5 pran59_6 pran59_7
end Go.Proofs.YtnmidllemdijdaaGreatDoor.X.Pri
