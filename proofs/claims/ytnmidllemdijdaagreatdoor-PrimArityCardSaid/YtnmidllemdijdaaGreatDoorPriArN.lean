/- Runs of the law of arity, part N; no condition. -/
import Derived.Test.YtnmidllemdijdaaGreatDoorPriAr
namespace Go.Proofs.YtnmidllemdijdaaGreatDoor.X.Pri
open Go
set_option maxRecDepth 100000
theorem pran78_0 : prun 78 0 = true := by decide +kernel
theorem pran78_1 : prun 78 1 = true := by decide +kernel
theorem pran78_2 : prun 78 2 = true := by decide +kernel
theorem pran78_3 : prun 78 3 = true := by decide +kernel
theorem pran78_4 : prun 78 4 = true := by decide +kernel
theorem pran78_5 : prun 78 5 = true := by decide +kernel
theorem pran78_6 : prun 78 6 = true := by decide +kernel
theorem pran78_7 : prun 78 7 = true := by decide +kernel
theorem eight78 : Eight 78 := eight pran78_0 pran78_1 pran78_2 pran78_3 pran78_4 pran78_5 pran78_6 pran78_7
theorem pran79_0 : prun 79 0 = true := by decide +kernel
theorem pran79_1 : prun 79 1 = true := by decide +kernel
theorem pran79_2 : prun 79 2 = true := by decide +kernel
theorem pran79_3 : prun 79 3 = true := by decide +kernel
theorem pran79_4 : prun 79 4 = true := by decide +kernel
theorem pran79_5 : prun 79 5 = true := by decide +kernel
theorem pran79_6 : prun 79 6 = true := by decide +kernel
theorem pran79_7 : prun 79 7 = true := by decide +kernel
theorem eight79 : Eight 79 := eight pran79_0 pran79_1 pran79_2 pran79_3 pran79_4 pran79_5 pran79_6 pran79_7
theorem pran80_0 : prun 80 0 = true := by decide +kernel
theorem pran80_1 : prun 80 1 = true := by decide +kernel
theorem pran80_2 : prun 80 2 = true := by decide +kernel
theorem pran80_3 : prun 80 3 = true := by decide +kernel
theorem pran80_4 : prun 80 4 = true := by decide +kernel
theorem pran80_5 : prun 80 5 = true := by decide +kernel
theorem pran80_6 : prun 80 6 = true := by decide +kernel
theorem pran80_7 : prun 80 7 = true := by decide +kernel
theorem eight80 : Eight 80 := eight pran80_0 pran80_1 pran80_2 pran80_3 pran80_4 pran80_5 pran80_6 pran80_7
theorem pran81_0 : prun 81 0 = true := by decide +kernel
theorem pran81_1 : prun 81 1 = true := by decide +kernel
theorem pran81_2 : prun 81 2 = true := by decide +kernel
theorem pran81_3 : prun 81 3 = true := by decide +kernel
theorem pran81_4 : prun 81 4 = true := by decide +kernel
theorem pran81_5 : prun 81 5 = true := by decide +kernel
theorem pran81_6 : prun 81 6 = true := by decide +kernel
theorem pran81_7 : prun 81 7 = true := by decide +kernel
theorem eight81 : Eight 81 := eight pran81_0 pran81_1 pran81_2 pran81_3 pran81_4 pran81_5 pran81_6 pran81_7
theorem pran82_0 : prun 82 0 = true := by decide +kernel
theorem pran82_1 : prun 82 1 = true := by decide +kernel
theorem pran82_2 : prun 82 2 = true := by decide +kernel
theorem pran82_3 : prun 82 3 = true := by decide +kernel
theorem pran82_4 : prun 82 4 = true := by decide +kernel
theorem pran82_5 : prun 82 5 = true := by decide +kernel
theorem pran82_6 : prun 82 6 = true := by decide +kernel
theorem pran82_7 : prun 82 7 = true := by decide +kernel
theorem eight82 : Eight 82 := eight pran82_0 pran82_1 pran82_2 pran82_3 pran82_4 pran82_5 pran82_6 pran82_7
theorem pran83_0 : prun 83 0 = true := by decide +kernel
theorem pran83_1 : prun 83 1 = true := by decide +kernel
theorem pran83_2 : prun 83 2 = true := by decide +kernel
theorem pran83_3 : prun 83 3 = true := by decide +kernel
theorem pran83_4 : prun 83 4 = true := by decide +kernel
theorem pran83_5 : prun 83 5 = true := by decide +kernel
theorem pran83_6 : prun 83 6 = true := by decide +kernel
theorem pran83_7 : prun 83 7 = true := by decide +kernel
theorem eight83 : Eight 83 := eight pran83_0 pran83_1 pran83_2 pran83_3 pran83_4 pran83_5 pran83_6 pran83_7
end Go.Proofs.YtnmidllemdijdaaGreatDoor.X.Pri
