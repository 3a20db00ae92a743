/- Runs that the law of loops comes to, part G; no condition. -/
import Derived.Test.YtfhjamimbgdfpaaGreatExpBase
namespace Go.Proofs.YtfhjamimbgdfpaaGreat.X.Exp
open Go
set_option maxRecDepth 100000
def args_two4 : List V := [(.str 56 116864711729429407461154394907335395950422282191905081103276337247076877360395534549147670670589814271271355992588418468250221451504680), (.str 64 2157803901186648352408328591728048625681300112794438045138010526441424831263610950238245273882065636290015346608785795601747462210818123448287203385157672)]
theorem ran_two4 : answer (callF (env []) (execF (env []) 1000000) (P.of 16) args_two4 ⟨.lf, .h⟩) = true := by decide +kernel
end Go.Proofs.YtfhjamimbgdfpaaGreat.X.Exp
