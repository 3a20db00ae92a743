/- Runs of the law of arity, part M; no condition. -/
import Derived.Test.YtnmidllemdijdaaGreatDoorPriAr
namespace Go.Proofs.YtnmidllemdijdaaGreatDoor.X.Pri
open Go
set_option maxRecDepth 100000
theorem pran72_0 : prun 72 0 = true := by decide +kernel
theorem pran72_1 : prun 72 1 = true := by decide +kernel
theorem pran72_2 : prun 72 2 = true := by decide +kernel
theorem pran72_3 : prun 72 3 = true := by decide +kernel
theorem pran72_4 : prun 72 4 = true := by decide +kernel
theorem pran72_5 : prun 72 5 = true := by decide +kernel
theorem pran72_6 : prun 72 6 = true := by decide +kernel
theorem pran72_7 : prun 72 7 = true := by decide +kernel
theorem eight72 : Eight 72 := eight pran72_0 pran72_1 pran72_2 pran72_3 pran72_4 pran72_5 pran72_6 pran72_7
theorem pran73_0 : prun 73 0 = true := by decide +kernel
theorem pran73_1 : prun 73 1 = true := by decide +kernel
theorem pran73_2 : prun 73 2 = true := by decide +kernel
theorem pran73_3 : prun 73 3 = true := by decide +kernel
theorem pran73_4 : prun 73 4 = true := by decide +kernel
theorem pran73_5 : prun 73 5 = true := by decide +kernel
theorem pran73_6 : prun 73 6 = true := by decide +kernel
theorem pran73_7 : prun 73 7 = true := by decide +kernel
theorem eight73 : Eight 73 := eight pran73_0 pran73_1 pran73_2 pran73_3 pran73_4 pran73_5 pran73_6 pran73_7
theorem pran74_0 : prun 74 0 = true := by decide +kernel
theorem pran74_1 : prun 74 1 = true := by decide +kernel
theorem pran74_2 : prun 74 2 = true := by decide +kernel
theorem pran74_3 : prun 74 3 = true := by decide +kernel
theorem pran74_4 : prun 74 4 = true := by decide +kernel
theorem pran74_5 : prun 74 5 = true := by decide +kernel
theorem pran74_6 : prun 74 6 = true := by decide +kernel
theorem pran74_7 : prun 74 7 = true := by decide +kernel
theorem eight74 : Eight 74 := eight pran74_0 pran74_1 pran74_2 pran74_3 pran74_4 pran74_5 pran74_6 pran74_7
theorem pran75_0 : prun 75 0 = true := by decide +kernel
theorem pran75_1 : prun 75 1 = true := by decide +kernel
theorem pran75_2 : prun 75 2 = true := by decide +kernel
theorem pran75_3 : prun 75 3 = true := by decide +kernel
theorem pran75_4 : prun 75 4 = true := by decide +kernel
theorem pran75_5 : prun 75 5 = true := by decide +kernel
theorem pran75_6 : prun 75 6 = true := by decide +kernel
theorem pran75_7 : prun 75 7 = true := by decide +kernel
theorem eight75 : Eight 75 := eight pran75_0 pran75_1 pran75_2 pran75_3 pran75_4 pran75_5 pran75_6 pran75_7
theorem pran76_0 : prun 76 0 = true := by decide +kernel
theorem pran76_1 : prun 76 1 = true := by decide +kernel
theorem pran76_2 : prun 76 2 = true := by decide +kernel
theorem pran76_3 : prun 76 3 = true := by decide +kernel
theorem pran76_4 : prun 76 4 = true := by decide +kernel
theorem pran76_5 : prun 76 5 = true := by decide +kernel
theorem pran76_6 : prun 76 6 = true := by decide +kernel
theorem pran76_7 : prun 76 7 = true := by decide +kernel
theorem eight76 : Eight 76 := eight pran76_0 pran76_1 pran76_2 pran76_3 pran76_4 pran76_5 pran76_6 pran76_7
theorem pran77_0 : prun 77 0 = true := by decide +kernel
theorem pran77_1 : prun 77 1 = true := by decide +kernel
theorem pran77_2 : prun 77 2 = true := by decide +kernel
theorem pran77_3 : prun 77 3 = true := by decide +kernel
theorem pran77_4 : prun 77 4 = true := by decide +kernel
theorem pran77_5 : prun 77 5 = true := by decide +kernel
theorem pran77_6 : prun 77 6 = true := by decide +kernel
theorem pran77_7 : prun 77 7 = true := by decide +kernel
theorem eight77 : Eight 77 := eight pran77_0 pran77_1 pran77_2 pran77_3 pran77_4 pran77_5 pran77_6 pran77_7
end Go.Proofs.YtnmidllemdijdaaGreatDoor.X.Pri
