/- Runs that the law of loops comes to, part C; no condition. -/
import Derived.Test.YtfhjamimbgdfpaaGreatExpAwake
namespace Go.Proofs.YtfhjamimbgdfpaaGreat.X.Exp
open Go
set_option maxRecDepth 100000
def args_two1 : List V := [(.str 26 66143009256636381159341736979413338777071379129535628122090536), (.str 40 343660212032137935174347253630125498649897078752283637402662685569911279083011322988218112813096)]
theorem ran_two1 : answer (env []) 1000000 (P.of 16) args_two1 = true := by decide +kernel
def args_two2 : List V := [(.str 36 79962021320018976821279407787029287355226014445636365339008482363299044099986060307496), (.str 48 6340013267916551435981333455782191794944082189073847220890789329056623048418097267785708542371910039177510559426600)]
theorem ran_two2 : answer (env []) 1000000 (P.of 16) args_two2 = true := by decide +kernel
end Go.Proofs.YtfhjamimbgdfpaaGreat.X.Exp
