/- Runs that the law of loops comes to, part B; no condition. -/
import Derived.Test.YtfhjamimbgdfpaaGreatExpAwake
namespace Go.Proofs.YtfhjamimbgdfpaaGreat.X.Exp
open Go
set_option maxRecDepth 100000
def args_loops4 : List V := [(.int .i64 (.ofNat 4)), (.str 12 15926540794179637940849767968), (.str 28 4338835886563489676897761880778987020209448124938981657136202131488)]
theorem ran_loops4 : answer (env []) 1000000 (P.of 17) args_loops4 = true := by decide +kernel
def args_loops5 : List V := [(.int .i64 (.ofNat 5)), (.str 15 272395312204783184432052519027373600), (.str 35 312675718138342685710879606477806062788473418980697883883547172520926819009877649440)]
theorem ran_loops5 : answer (env []) 1000000 (P.of 17) args_loops5 = true := by decide +kernel
def args_two0 : List V := [(.str 16 54713512197316919625776300595553332264), (.str 32 18618043432221842621486073166850564673339707927509443613855975507364726712360)]
theorem ran_two0 : answer (env []) 1000000 (P.of 16) args_two0 = true := by decide +kernel
end Go.Proofs.YtfhjamimbgdfpaaGreat.X.Exp
