/- Runs that the law of loops comes to, part D; no condition. -/
import Derived.Test.YtfhjamimbgdfpaaGreatExpBase
namespace Go.Proofs.YtfhjamimbgdfpaaGreat.X.Exp
open Go
set_option maxRecDepth 100000
def args_two1 : List V := [(.str 26 66143009256636381159341736979413338777071379129535628122090536), (.str 40 343660212032137935174347253630125498649897078752283637402662685569911279083011322988218112813096)]
theorem ran_two1 : answer (callF (env []) (execF (env []) 1000000) (P.of 16) args_two1 ⟨.lf, .h⟩) = true := by decide +kernel
end Go.Proofs.YtfhjamimbgdfpaaGreat.X.Exp
