/- Runs of the law of arity, part K; no condition. -/
import Derived.Test.YtnmidllemdijdaaGreatDoorPriAr
namespace Go.Proofs.YtnmidllemdijdaaGreatDoor.X.Pri
open Go
set_option maxRecDepth 100000
theorem pran60_0 : prun 60 0 = true := by decide +kernel
theorem pran60_1 : prun 60 1 = true := by decide +kernel
theorem pran60_2 : prun 60 2 = true := by decide +kernel
theorem pran60_3 : prun 60 3 = true := by decide +kernel
theorem pran60_4 : prun 60 4 = true := by decide +kernel
theorem pran60_5 : prun 60 5 = true := by decide +kernel
theorem pran60_6 : prun 60 6 = true := by decide +kernel
theorem pran60_7 : prun 60 7 = true := by decide +kernel
theorem eight60 : Eight 60 := eight pran60_0 pran60_1 pran60_2 pran60_3 pran60_4 pran60_5 pran60_6 pran60_7
theorem pran61_0 : prun 61 0 = true := by decide +kernel
theorem pran61_1 : prun 61 1 = true := by decide +kernel
theorem pran61_2 : prun 61 2 = true := by decide +kernel
theorem pran61_3 : prun 61 3 = true := by decide +kernel
theorem pran61_4 : prun 61 4 = true := by decide +kernel
theorem pran61_5 : prun 61 5 = true := by decide +kernel
theorem pran61_6 : prun 61 6 = true := by decide +kernel
theorem pran61_7 : prun 61 7 = true := by decide +kernel
theorem eight61 : Eight 61 := eight pran61_0 pran61_1 pran61_2 pran61_3 pran61_4 pran61_5 pran61_6 pran61_7
theorem pran62_0 : prun 62 0 = true := by decide +kernel
theorem pran62_1 : prun 62 1 = true := by decide +kernel
theorem pran62_2 : prun 62 2 = true := by decide +kernel
theorem pran62_3 : prun 62 3 = true := by decide +kernel
theorem pran62_4 : prun 62 4 = true := by decide +kernel
theorem pran62_5 : prun 62 5 = true := by decide +kernel
theorem pran62_6 : prun 62 6 = true := by decide +kernel
theorem pran62_7 : prun 62 7 = true := by decide +kernel
theorem eight62 : Eight 62 := eight pran62_0 pran62_1 pran62_2 pran62_3 pran62_4 pran62_5 pran62_6 pran62_7
theorem pran63_0 : prun 63 0 = true := by decide +kernel
theorem pran63_1 : prun 63 1 = true := by decide +kernel
theorem pran63_2 : prun 63 2 = true := by decide +kernel
theorem pran63_3 : prun 63 3 = true := by decide +kernel
theorem pran63_4 : prun 63 4 = true := by decide +kernel
theorem pran63_5 : prun 63 5 = true := by decide +kernel
theorem pran63_6 : prun 63 6 = true := by decide +kernel
theorem pran63_7 : prun 63 7 = true := by decide +kernel
theorem eight63 : Eight 63 := eight pran63_0 pran63_1 pran63_2 pran63_3 pran63_4 pran63_5 pran63_6 pran63_7
theorem pran64_0 : prun 64 0 = true := by decide +kernel
theorem pran64_1 : prun 64 1 = true := by decide +kernel
theorem pran64_2 : prun 64 2 = true := by decide +kernel
theorem pran64_3 : prun 64 3 = true := by decide +kernel
theorem pran64_4 : prun 64 4 = true := by decide +kernel
theorem pran64_5 : prun 64 5 = true := by decide +kernel
theorem pran64_6 : prun 64 6 = true := by decide +kernel
theorem pran64_7 : prun 64 7 = true := by decide +kernel
theorem eight64 : Eight 64 := eight pran64_0 pran64_1 pran64_2 pran64_3 pran64_4 pran64_5 pran64_6 pran64_7
theorem pran65_0 : prun 65 0 = true := by decide +kernel
theorem pran65_1 : prun 65 1 = true := by decide +kernel
theorem pran65_2 : prun 65 2 = true := by decide +kernel
theorem pran65_3 : prun 65 3 = true := by decide +kernel
theorem pran65_4 : prun 65 4 = true := by decide +kernel
theorem pran65_5 : prun 65 5 = true := by decide +kernel
theorem pran65_6 : prun 65 6 = true := by decide +kernel
theorem pran65_7 : prun 65 7 = true := by decide +kernel
theorem eight65 : Eight 65 := eight pran65_0 pran65_1 pran65_2 pran65_3 pran65_4 pran65_5 pran65_6 pran65_7
end Go.Proofs.YtnmidllemdijdaaGreatDoor.X.Pri
