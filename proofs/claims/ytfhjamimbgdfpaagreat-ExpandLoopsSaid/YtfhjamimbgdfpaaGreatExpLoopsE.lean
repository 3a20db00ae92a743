/- Runs that the law of loops comes to, part E; no condition. -/
import Derived.Test.YtfhjamimbgdfpaaGreatExpBase
namespace Go.Proofs.YtfhjamimbgdfpaaGreat.X.Exp
open Go
set_option maxRecDepth 100000
def args_two2 : List V := [(.str 36 79962021320018976821279407787029287355226014445636365339008482363299044099986060307496), (.str 48 6340013267916551435981333455782191794944082189073847220890789329056623048418097267785708542371910039177510559426600)]
theorem ran_two2 : answer (callF (env []) (execF (env []) 1000000) (P.of 16) args_two2 ⟨.lf, .h⟩) = true := by decide +kernel
end Go.Proofs.YtfhjamimbgdfpaaGreat.X.Exp
