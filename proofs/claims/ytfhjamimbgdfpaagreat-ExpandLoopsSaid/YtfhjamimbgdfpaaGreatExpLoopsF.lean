/- Runs that the law of loops comes to, part F; no condition. -/
import Derived.Test.YtfhjamimbgdfpaaGreatExpBase
namespace Go.Proofs.YtfhjamimbgdfpaaGreat.X.Exp
open Go
set_option maxRecDepth 100000
def args_two3 : List V := [(.str 46 96668187998264404644728242666347058901903256845153236131553270108799466278647018859370594542043291852290223144), (.str 56 116963693025203650358220565845545540848676657250750368177687269722410843814326262745634428822778960199980349568380972494687692600911912)]
theorem ran_two3 : answer (callF (env []) (execF (env []) 1000000) (P.of 16) args_two3 ⟨.lf, .h⟩) = true := by decide +kernel
end Go.Proofs.YtfhjamimbgdfpaaGreat.X.Exp
