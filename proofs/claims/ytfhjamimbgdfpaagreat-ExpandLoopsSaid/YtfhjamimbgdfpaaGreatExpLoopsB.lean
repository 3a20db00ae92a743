/- Runs that the law of loops comes to, part B; no condition. -/
import Derived.Test.YtfhjamimbgdfpaaGreatExpBase
namespace Go.Proofs.YtfhjamimbgdfpaaGreat.X.Exp
open Go
set_option maxRecDepth 100000
def args_loops3 : List V := [(.int .i64 (.ofNat 3)), (.str 9 930849061364623767072), (.str 21 60207734688775516595988142276091987903527775512608)]
theorem ran_loops3 : answer (callF (env []) (execF (env []) 1000000) (P.of 17) args_loops3 ⟨.lf, .h⟩) = true := by decide +kernel
def args_loops4 : List V := [(.int .i64 (.ofNat 4)), (.str 12 15926540794179637940849767968), (.str 28 4338835886563489676897761880778987020209448124938981657136202131488)]
theorem ran_loops4 : answer (callF (env []) (execF (env []) 1000000) (P.of 17) args_loops4 ⟨.lf, .h⟩) = true := by decide +kernel
end Go.Proofs.YtfhjamimbgdfpaaGreat.X.Exp
