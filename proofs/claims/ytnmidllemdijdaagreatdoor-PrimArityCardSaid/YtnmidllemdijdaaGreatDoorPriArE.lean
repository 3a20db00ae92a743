/- Runs of the law of arity, part E; no condition. -/
import Derived.Test.YtnmidllemdijdaaGreatDoorPriAr
namespace Go.Proofs.YtnmidllemdijdaaGreatDoor.X.Pri
open Go
set_option maxRecDepth 100000
theorem pran24_0 : prun 24 0 = true := by decide +kernel
theorem pran24_1 : prun 24 1 = true := by decide +kernel
theorem pran24_2 : prun 24 2 = true := by decide +kernel
theorem pran24_3 : prun 24 3 = true := by decide +kernel
theorem pran24_4 : prun 24 4 = true := by decide +kernel
theorem pran24_5 : prun 24 5 = true := by decide +kernel
theorem pran24_6 : prun 24 6 = true := by decide +kernel
theorem pran24_7 : prun 24 7 = true := by decide +kernel
theorem eight24 : Eight 24 := eight pran24_0 pran24_1 pran24_2 pran24_3 pran24_4 pran24_5 pran24_6 pran24_7
theorem pran25_0 : prun 25 0 = true := by decide +kernel
theorem pran25_1 : prun 25 1 = true := by decide +kernel
theorem pran25_2 : prun 25 2 = true := by decide +kernel
theorem pran25_3 : prun 25 3 = true := by decide +kernel
theorem pran25_4 : prun 25 4 = true := by decide +kernel
theorem pran25_5 : prun 25 5 = true := by decide +kernel
theorem pran25_6 : prun 25 6 = true := by decide +kernel
theorem pran25_7 : prun 25 7 = true := by decide +kernel
theorem eight25 : Eight 25 := eight pran25_0 pran25_1 pran25_2 pran25_3 pran25_4 pran25_5 pran25_6 pran25_7
theorem pran26_0 : prun 26 0 = true := by decide +kernel
theorem pran26_1 : prun 26 1 = true := by decide +kernel
theorem pran26_2 : prun 26 2 = true := by decide +kernel
theorem pran26_3 : prun 26 3 = true := by decide +kernel
theorem pran26_4 : prun 26 4 = true := by decide +kernel
theorem pran26_5 : prun 26 5 = true := by decide +kernel
theorem pran26_6 : prun 26 6 = true := by decide +kernel
theorem pran26_7 : prun 26 7 = true := by decide +kernel
theorem eight26 : Eight 26 := eight pran26_0 pran26_1 pran26_2 pran26_3 pran26_4 pran26_5 pran26_6 pran26_7
theorem pran27_0 : prun 27 0 = true := by decide +kernel
theorem pran27_1 : prun 27 1 = true := by decide +kernel
theorem pran27_2 : prun 27 2 = true := by decide +kernel
theorem pran27_3 : prun 27 3 = true := by decide +kernel
theorem pran27_4 : prun 27 4 = true := by decide +kernel
theorem pran27_5 : prun 27 5 = true := by decide +kernel
theorem pran27_6 : prun 27 6 = true := by decide +kernel
theorem pran27_7 : prun 27 7 = true := by decide +kernel
theorem eight27 : Eight 27 := eight pran27_0 pran27_1 pran27_2 pran27_3 pran27_4 pran27_5 pran27_6 pran27_7
theorem pran28_0 : prun 28 0 = true := by decide +kernel
theorem pran28_1 : prun 28 1 = true := by decide +kernel
theorem pran28_2 : prun 28 2 = true := by decide +kernel
theorem pran28_3 : prun 28 3 = true := by decide +kernel
theorem pran28_4 : prun 28 4 = true := by decide +kernel
theorem pran28_5 : prun 28 5 = true := by decide +kernel
theorem pran28_6 : prun 28 6 = true := by decide +kernel
theorem pran28_7 : prun 28 7 = true := by decide +kernel
theorem eight28 : Eight 28 := eight pran28_0 pran28_1 pran28_2 pran28_3 pran28_4 pran28_5 pran28_6 pran28_7
theorem pran29_0 : prun 29 0 = true := by decide +kernel
theorem pran29_1 : prun 29 1 = true := by decide +kernel
theorem pran29_2 : prun 29 2 = true := by decide +kernel
theorem pran29_3 : prun 29 3 = true := by decide +kernel
theorem pran29_4 : prun 29 4 = true := by decide +kernel
theorem pran29_5 : prun 29 5 = true := by decide +kernel
theorem pran29_6 : prun 29 6 = true := by decide +kernel
theorem pran29_7 : prun 29 7 = true := by decide +kernel
theorem eight29 : Eight 29 := eight pran29_0 pran29_1 pran29_2 pran29_3 pran29_4 pran29_5 pran29_6 pran29_7
end Go.Proofs.YtnmidllemdijdaaGreatDoor.X.Pri
