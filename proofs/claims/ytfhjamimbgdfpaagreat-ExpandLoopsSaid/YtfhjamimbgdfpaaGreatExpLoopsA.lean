/- Runs that the law of loops comes to, part A; no condition. -/
import Derived.Test.YtfhjamimbgdfpaaGreatExpAwake
namespace Go.Proofs.YtfhjamimbgdfpaaGreat.X.Exp
open Go
set_option maxRecDepth 100000
def args_loops0 : List V := [(.int .i64 (.ofNat 0)), (.str 0 0), (.str 0 0)]
theorem ran_loops0 : answer (env []) 1000000 (P.of 17) args_loops0 = true := by decide +kernel
def args_loops1 : List V := [(.int .i64 (.ofNat 1)), (.str 3 3175968), (.str 7 11593388855273504)]
theorem ran_loops1 : answer (env []) 1000000 (P.of 17) args_loops1 = true := by decide +kernel
def args_loops2 : List V := [(.int .i64 (.ofNat 2)), (.str 6 54383415948832), (.str 14 835470937028576316260914296137760)]
theorem ran_loops2 : answer (env []) 1000000 (P.of 17) args_loops2 = true := by decide +kernel
def args_loops3 : List V := [(.int .i64 (.ofNat 3)), (.str 9 930849061364623767072), (.str 21 60207734688775516595988142276091987903527775512608)]
theorem ran_loops3 : answer (env []) 1000000 (P.of 17) args_loops3 = true := by decide +kernel
end Go.Proofs.YtfhjamimbgdfpaaGreat.X.Exp
